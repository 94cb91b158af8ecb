/- The statement CamShifts is proved: a cam whose law is moved is Positive, Within and Convex alike; no condition. -/
import Derived.Test.YtbgkjomonebfcaaGreatM0
import Derived.Test.YtbgkjomonebfcaaGreatM2
import Derived.Test.YtbgkjomonebfcaaGreatYSymM
import Derived.Shelf.SlSortCmp.InsertionK
import Derived.Sort.AssemblyPlain
import Derived.Shelf.SlSortCmp.WholeK
import Derived.Test.YtbgkjomonebfcaaGreatChecked
import Derived.Shelf.SlLaysF0
import Derived.KernelRfl
namespace Go.Proofs.YtbgkjomonebfcaaGreat.Sym.Path
open Go
set_option maxRecDepth 20000
set_option linter.unusedVariables false
namespace law_Shift
@[reducible] noncomputable def fn:Func:=Tryz.f67
noncomputable def atK1:List Itm:=focus [0,2,0,0,2,0,2,1,2,0,0,2,1,2,0,2,0,0,2,0,0] [.code (bodyOf fn)]
def inv1(len_32:Nat)(l:ALaw)(t_36:Nat)(byV:ARat)(site_32:List ARat):St:=⟨[(2,(.ptr 2 0)),(3,(.ptr 3 0)),(4,(.ptr 4 0)),(7,(.row 32 0 len_32 3)),(34,(.pv (polyPV l.breaks))),(35,(eI (l.breaks.length:Int))),(36,(eI (t_36:Int)))],[(2,(.lit [(.pv (polyPV l.breaks)),(.pv (lpv (lcell ARat.cells) l.pieces))])),(3,(.lit [(eB byV.neg),(.pv (wordsPV byV.num)),(.pv (wordsPV byV.den))])),(4,(.lit [(.pv (.list [])),(.pv (.list []))])),(32,(.pure ((site_32:List ARat).map ARat.cells).flatten))]⟩
@[reducible] noncomputable def Loop1(len_32:Nat)(l:ALaw)(t_36:Nat)(byV:ARat)(site_32:List ARat)(r:PV):Prop:=L prg fn atK1 (inv1 len_32 l t_36 byV site_32) r
noncomputable def atK2:List Itm:=focus [0,2,0,0,2,0,2,1,2,0,0,2,1,2,0,2,0,0,2,0,0,0,0,2,0,1,2,2,2,2,0,0,2,1,2,0,2,0,2,0,0,2,0,0] [.code (bodyOf fn)]
def inv2(z:List ARat)(t_71:Nat)(l:ALaw)(byV:ARat)(site_117:List (List ARat)):St:=⟨[(2,(.ptr 2 0)),(3,(.ptr 3 0)),(4,(.ptr 4 0)),(12,(.ptr 12 0)),(69,(.pv (polyPV z))),(70,(eI (z.length:Int))),(71,(eI (t_71:Int)))],[(2,(.lit [(.pv (polyPV l.breaks)),(.pv (lpv (lcell ARat.cells) l.pieces))])),(3,(.lit [(eB byV.neg),(.pv (wordsPV byV.num)),(.pv (wordsPV byV.den))])),(4,(.lit [(.pv (.list [])),(.pv (.list []))])),(12,(.lit [(.pv (polyPV z)),(.row 117 0 site_117.length 1)])),(117,(.pure ((site_117:List (List ARat)).map (lcell ARat.cells)).flatten))]⟩
@[reducible] noncomputable def Loop2(z:List ARat)(t_71:Nat)(l:ALaw)(byV:ARat)(site_117:List (List ARat))(r:PV):Prop:=L prg fn atK2 (inv2 z t_71 l byV site_117) r
theorem e1(l:ALaw)(byV:ARat)(val:Bool){r:PV}(h1:Contract prg 114 [l.pv] .nilI)(h2:Contract prg 97 [byV.pv] (vB val))(h3:val=true)(hL:Loop1 1 l 0 byV [(⟨false,[],[]⟩:ARat)] r):Contract prg 67 [l.pv,byV.pv] r :=
 Contract.ofL Tryz.func67 (by kernel_rfl) (L.go mixed tabOk (n:=123) (ns:=[1,1,1,1]) (tr:=[.reg [],.reg [.none,(.pv .nilI)],.reg [],.auto,.reg [.none,(.pv (vB val))],.dec false,.reg [],.reg [.none,.none,(iI (l.breaks.length:Int))],.keep [2,3,4,7,34,35,36],.ord [2,3,4,32]]) (cj h1 (cj h2 (cj (bnot_f h3) (cj (o_len ARat.cells l.breaks) True.intro)))) (by kernel_rfl) hL)
theorem l10(len_32:Nat)(l:ALaw)(t_36:Nat)(byV:ARat)(site_32:List ARat)(v add wra:ARat)(z:List ARat)(rat:Bool){r:PV}(h1:t_36<l.breaks.length)(h2:l.breaks[t_36]? = some v)(h3:Contract prg 63 [v.pv,byV.pv] add.pv)(h4:Contract prg 142 [add.pv] (.tup [wra.pv,.nilI]))(h5:ContractX prg 143 [.row 100000 0 len_32 3,.clo 144 100001] [(100000,(.pure ((site_32:List ARat).map ARat.cells).flatten)),(100001,(.lit [(eB wra.neg),(.pv (wordsPV wra.num)),(.pv (wordsPV wra.den))]))] (.pv (vB rat)) [(100000,(.pure ((z:List ARat).map ARat.cells).flatten)),(100001,(.lit [(eB wra.neg),(.pv (wordsPV wra.num)),(.pv (wordsPV wra.den))]))])(h6:rat=false)(h7:z.length=len_32)(h8:((z++[wra]):List ARat).length*56≤140737488355328)(h9:(t_36+1)<9223372036854775808)(hL:Loop1 ((z++[wra]).length) l (t_36+1) byV (z++[wra]) r):Loop1 len_32 l t_36 byV site_32 r :=
 L.go mixed tabOk (n:=192) (ns:=[1,3,1,1,1,1,6,1]) (tr:=[.auto,.reg [],.dec true,.reg [(.row t_36 (ARat.cells v))],.reg [.none,.none,(.pv add.pv),(.pv (.tup [wra.pv,.nilI]))],.reg [],.auto,.reg [.none,.none,(.callX [(32,100000),(10,100001)] none (.pv (vB rat)) [(100000,(.pure ((z:List ARat).map ARat.cells).flatten)),(100001,(.lit [(eB wra.neg),(.pv (wordsPV wra.num)),(.pv (wordsPV wra.den))]))])],.dec true,.reg [.none,.none,.none,(.app ((z++[wra]):List ARat).length (((z++[wra]):List ARat).map ARat.cells).flatten)],.reg [(iI (((t_36+1):Nat):Int))],.keep [2,3,4,7,34,35,36],.drop [57,10,9],.ren 58 32,.ord [2,3,4,32]]) (cj (dltN_t h1) (cj (o_at ARat.cells (Eq.refl (((t_36:Nat):Int):Int)) h2) (cj h3 (cj h4 (cj h5 (cj (bnot_t h6) (cj (o_appR sz_ARat (z:List ARat) ([wra]:List ARat) 56 h7 (Eq.refl ([wra]:List ARat).length) h8 rfl) (cj (bs_addN h9) True.intro)))))))) (by kernel_rfl) hL
theorem l11(len_32:Nat)(l:ALaw)(t_36:Nat)(byV:ARat)(site_32:List ARat)(v add wra:ARat)(z:List ARat)(rat:Bool){r:PV}(h1:t_36<l.breaks.length)(h2:l.breaks[t_36]? = some v)(h3:Contract prg 63 [v.pv,byV.pv] add.pv)(h4:Contract prg 142 [add.pv] (.tup [wra.pv,.nilI]))(h5:ContractX prg 143 [.row 100000 0 len_32 3,.clo 144 100001] [(100000,(.pure ((site_32:List ARat).map ARat.cells).flatten)),(100001,(.lit [(eB wra.neg),(.pv (wordsPV wra.num)),(.pv (wordsPV wra.den))]))] (.pv (vB rat)) [(100000,(.pure ((z:List ARat).map ARat.cells).flatten)),(100001,(.lit [(eB wra.neg),(.pv (wordsPV wra.num)),(.pv (wordsPV wra.den))]))])(h6:rat=true)(h7:(t_36+1)<9223372036854775808)(hL:Loop1 len_32 l (t_36+1) byV z r):Loop1 len_32 l t_36 byV site_32 r :=
 L.go mixed tabOk (n:=192) (ns:=[1,3,1,1,1,1,1]) (tr:=[.auto,.reg [],.dec true,.reg [(.row t_36 (ARat.cells v))],.reg [.none,.none,(.pv add.pv),(.pv (.tup [wra.pv,.nilI]))],.reg [],.auto,.reg [.none,.none,(.callX [(32,100000),(10,100001)] none (.pv (vB rat)) [(100000,(.pure ((z:List ARat).map ARat.cells).flatten)),(100001,(.lit [(eB wra.neg),(.pv (wordsPV wra.num)),(.pv (wordsPV wra.den))]))])],.dec false,.reg [(iI (((t_36+1):Nat):Int))],.keep [2,3,4,7,34,35,36],.drop [10,9]]) (cj (dltN_t h1) (cj (o_at ARat.cells (Eq.refl (((t_36:Nat):Int):Int)) h2) (cj h3 (cj h4 (cj h5 (cj (bnot_f h6) (cj (bs_addN h7) True.intro))))))) (by kernel_rfl) hL
theorem l13(len_32:Nat)(l:ALaw)(t_36:Nat)(byV:ARat)(site_32:List ARat)(h1:l.breaks.length≤t_36)(h2:16<len_32):Loop1 len_32 l t_36 byV site_32 (.tup [(⟨[],[]⟩:ALaw).pv,(.iface 94 (vI 4))]) :=
 L.done mixed tabOk (n:=168) (ns:=[1,1]) (tr:=[.auto,.reg [],.dec false,.reg [],.dec true,.reg []]) (cj (dltN_f h1) (cj (dltN_t h2) True.intro)) (by kernel_rfl)
theorem l14(len_32:Nat)(l:ALaw)(t_36:Nat)(byV:ARat)(site_32 z:List ARat){r:PV}(h1:l.breaks.length≤t_36)(h2:len_32≤16)(h3:ContractX prg 145 [.row 100000 0 len_32 3,.pv (.fn 29)] [(100000,(.pure ((site_32:List ARat).map ARat.cells).flatten))] (.pv (.tup [])) [(100000,(.pure ((z:List ARat).map ARat.cells).flatten))])(h4:len_32=z.length)(hL:Loop2 z 0 l byV [] r):Loop1 len_32 l t_36 byV site_32 r :=
 L.go mixed tabOk (n:=192) (ns:=[1,1,1,3,1]) (tr:=[.auto,.reg [],.dec false,.reg [],.dec false,.reg [.none,(.callX [(32,100000)] none (.pv (.tup [])) [(100000,(.pure ((z:List ARat).map ARat.cells).flatten))])],.frzT 7 ((z:List ARat).map ARat.cells),.reg [.none,.nil],.adoptC 12 1 117 1,.reg [.none,(iI (z.length:Int))],.keep [2,3,4,12,69,70,71],.ord [2,3,4,12,117]]) (cj (dltN_f h1) (cj (dltN_f h2) (cj h3 (cj (o_frz sz_ARat (z:List ARat) h4) (cj (o_len ARat.cells z) True.intro))))) (by kernel_rfl) hL
theorem l20(z:List ARat)(t_71:Nat)(l:ALaw)(byV:ARat)(site_117:List (List ARat))(v sub wra:ARat)(pie:Int)(k:Nat)(v1 sub1 one:ARat)(tri:List ARat)(k1:Nat)(v2 com:List ARat){r:PV}(h1:t_71<z.length)(h2:z[t_71]? = some v)(h3:Contract prg 146 [v.pv,byV.pv] sub.pv)(h4:Contract prg 142 [sub.pv] (.tup [wra.pv,.nilI]))(h5:Contract prg 147 [l.pv,wra.pv] (vI pie))(h6:pie=(k:Int))(h7:l.breaks[k]? = some v1)(h8:Contract prg 146 [wra.pv,v1.pv] sub1.pv)(h9:Contract prg 149 [] one.pv)(h10:Contract prg 148 [(polyPV [sub1,one])] (polyPV tri))(h11:pie=(k1:Int))(h12:l.pieces[k1]? = some v2)(h13:Contract prg 150 [(polyPV v2),(polyPV tri)] (.tup [(polyPV com),.nilI]))(h14:((site_117++[com]):List (List ARat)).length*24≤140737488355328)(h15:(t_71+1)<9223372036854775808)(hL:Loop2 z (t_71+1) l byV (site_117++[com]) r):Loop2 z t_71 l byV site_117 r :=
 L.go mixed tabOk (n:=285) (ns:=[1,3,1,1,1,3,1,1,3,1,3,1,6,1]) (tr:=[.auto,.reg [],.dec true,.reg [(.row t_71 (ARat.cells v))],.reg [.none,.none,(.pv sub.pv),(.pv (.tup [wra.pv,.nilI]))],.reg [],.auto,.reg [.none,.none,(.pv (vI pie))],dr 10 1 [.none,.none,.none,.none,(.row k (ARat.cells v1)),.none,(.pv sub1.pv),(.pv one.pv),(.slc 0 0 (([sub1,one]:List ARat).map ARat.cells)),(.pv (polyPV tri))],.reg [.none,.none,.none,(.row k1 ((lcell ARat.cells) v2)),.none,.none,(.pv (.tup [(polyPV com),.nilI]))],.reg [],.auto,.reg [.none,.none,.none,.none,(.app ((site_117++[com]):List (List ARat)).length (((site_117++[com]):List (List ARat)).map (lcell ARat.cells)).flatten)],.reg [(iI (((t_71+1):Nat):Int))],.keep [2,3,4,12,69,70,71],.drop [116,15,14],.ord [2,3,4,12,117]]) (cj (dltN_t h1) (cj (o_at ARat.cells (Eq.refl (((t_71:Nat):Int):Int)) h2) (cj h3 (cj h4 (cj h5 (cj (o_at ARat.cells h6 h7) (cj h8 (cj h9 (cj (o_bs sz_ARat ([sub1,one]:List ARat)) (cj h10 (cj (o_at (lcell ARat.cells) h11 h12) (cj h13 (cj (o_appR (sz_l ARat.cells) (site_117:List (List ARat)) ([com]:List (List ARat)) 24 (Eq.refl (site_117:List (List ARat)).length) (Eq.refl ([com]:List (List ARat)).length) h14 rfl) (cj (bs_addN h15) True.intro)))))))))))))) (by kernel_rfl) hL
theorem l23(z:List ARat)(t_71:Nat)(l:ALaw)(byV:ARat)(site_117:List (List ARat))(h1:z.length≤t_71):Loop2 z t_71 l byV site_117 (.tup [(⟨z,site_117⟩:ALaw).pv,.nilI]) :=
 L.done mixed tabOk (n:=225) (ns:=[1,3]) (tr:=[.auto,.reg [],.dec false,.frzC 12 1 ((site_117:List (List ARat)).map (lcell ARat.cells)),.reg []]) (cj (dltN_f h1) (cj (o_frz (sz_l ARat.cells) (site_117:List (List ARat)) (Eq.refl (site_117:List (List ARat)).length)) True.intro)) (by kernel_rfl)
end law_Shift
namespace linkworkref52_Check
@[reducible] noncomputable def fn:Func:=Tryz.f68
noncomputable def atK1:List Itm:=focus [0,2,0,0,2,1,2,0,0,2,1,2,0,0,2,0,0] [.code (bodyOf fn)]
def inv1(i_3:Nat)(l:ALaw):St:=⟨[(1,(.ptr 1 0)),(3,(eI (i_3:Int)))],[(1,(.lit [(.pv (polyPV l.breaks)),(.pv (lpv (lcell ARat.cells) l.pieces))]))]⟩
@[reducible] noncomputable def Loop1(i_3:Nat)(l:ALaw)(r:PV):Prop:=L prg fn atK1 (inv1 i_3 l) r
noncomputable def atK2:List Itm:=focus [0,2,0,0,2,1,2,0,0,2,1,2,0,0,2,0,0,0,0,0,2,1,2,2,2,2,0,0,2,0,0] [.code (bodyOf fn)]
def inv2(i_5:Nat)(l:ALaw):St:=⟨[(1,(.ptr 1 0)),(5,(eI (i_5:Int)))],[(1,(.lit [(.pv (polyPV l.breaks)),(.pv (lpv (lcell ARat.cells) l.pieces))]))]⟩
@[reducible] noncomputable def Loop2(i_5:Nat)(l:ALaw)(r:PV):Prop:=L prg fn atK2 (inv2 i_5 l) r
theorem e0(l:ALaw)(h1:l.breaks.length=0):Contract prg 68 [l.pv] (vI 10) :=
 Contract.ofL Tryz.func68 (by kernel_rfl) (L.done mixed tabOk (n:=84) (ns:=[1,1,1,1,1,1,1,1,1]) (tr:=[.reg [],.reg [.none,.none,(iI (l.breaks.length:Int)),.none,.none,.skip,.skip,.skip,.skip,.skip,.skip,.skip,(.dec true)],.auto,.reg []]) (cj (o_len ARat.cells l.breaks) (cj (deqN_t h1) (cj (deqN_t h1) (cj (deqN_t h1) (cj (deqN_t h1) (cj (deqN_t h1) (cj (deqN_t h1) (cj (deqN_t h1) (cj (deqN_t h1) True.intro))))))))) (by kernel_rfl))
theorem e1(l:ALaw)(h1:l.breaks.length≠0)(h2:l.breaks.length≠l.pieces.length):Contract prg 68 [l.pv] (vI 10) :=
 Contract.ofL Tryz.func68 (by kernel_rfl) (L.done mixed tabOk (n:=84) (ns:=[1,1,1,1,1,1,1,1,1,1,1,1]) (tr:=[.reg [],.reg [.none,.none,(iI (l.breaks.length:Int)),.none,.none,.none,.none,(iI (l.breaks.length:Int)),.none,.none,(iI (l.pieces.length:Int)),.none,(.dec false)],.dec true,.reg []]) (cj (o_len ARat.cells l.breaks) (cj (deqN_f h1) (cj (deqN_f h1) (cj (deqN_f h1) (cj (o_len ARat.cells l.breaks) (cj (deqN_f h1) (cj (deqN_f h1) (cj (deqN_f h1) (cj (o_len (lcell ARat.cells) l.pieces) (cj (deqN_f h1) (cj (deqN_f h1) (cj (dneN_t h2) True.intro)))))))))))) (by kernel_rfl))
theorem e2(l:ALaw)(h1:l.breaks.length≠0)(h2:l.breaks.length=l.pieces.length)(h3:16<l.breaks.length):Contract prg 68 [l.pv] (vI 4) :=
 Contract.ofL Tryz.func68 (by kernel_rfl) (L.done mixed tabOk (n:=99) (ns:=[1,1,1,1,1,1,1,1,1,1,1,1,1,1]) (tr:=[.reg [],.reg [.none,.none,(iI (l.breaks.length:Int)),.none,.none,.none,.none,(iI (l.breaks.length:Int)),.none,.none,(iI (l.pieces.length:Int)),.none,(.dec false)],.dec false,.reg [.none,.none,(iI (l.breaks.length:Int))],.dec true,.reg []]) (cj (o_len ARat.cells l.breaks) (cj (deqN_f h1) (cj (deqN_f h1) (cj (deqN_f h1) (cj (o_len ARat.cells l.breaks) (cj (deqN_f h1) (cj (deqN_f h1) (cj (deqN_f h1) (cj (o_len (lcell ARat.cells) l.pieces) (cj (deqN_f h1) (cj (deqN_f h1) (cj (dneN_f h2) (cj (o_len ARat.cells l.breaks) (cj (dltN_t h3) True.intro)))))))))))))) (by kernel_rfl))
theorem e3(l:ALaw){r:PV}(h1:l.breaks.length≠0)(h2:l.breaks.length=l.pieces.length)(h3:l.breaks.length≤16)(hL:Loop1 0 l r):Contract prg 68 [l.pv] r :=
 Contract.ofL Tryz.func68 (by kernel_rfl) (L.go mixed tabOk (n:=111) (ns:=[1,1,1,1,1,1,1,1,1,1,1,1,1,1]) (tr:=[.reg [],.reg [.none,.none,(iI (l.breaks.length:Int)),.none,.none,.none,.none,(iI (l.breaks.length:Int)),.none,.none,(iI (l.pieces.length:Int)),.none,(.dec false)],.dec false,.reg [.none,.none,(iI (l.breaks.length:Int))],.dec false,.reg [],.keep [1,3]]) (cj (o_len ARat.cells l.breaks) (cj (deqN_f h1) (cj (deqN_f h1) (cj (deqN_f h1) (cj (o_len ARat.cells l.breaks) (cj (deqN_f h1) (cj (deqN_f h1) (cj (deqN_f h1) (cj (o_len (lcell ARat.cells) l.pieces) (cj (deqN_f h1) (cj (deqN_f h1) (cj (dneN_f h2) (cj (o_len ARat.cells l.breaks) (cj (dltN_f h3) True.intro)))))))))))))) (by kernel_rfl) hL)
theorem l10(i_3:Nat)(l:ALaw)(v:ARat)(val:Bool)(h1:i_3<l.breaks.length)(h2:l.breaks[i_3]? = some v)(h3:Contract prg 48 [v.pv] (vB val))(h4:val=false):Loop1 i_3 l (vI 3) :=
 L.done mixed tabOk (n:=159) (ns:=[1,1,3,1,1,1,1,1,1,1,1,1]) (tr:=[.auto,.reg [.none,.none,.none,(iI (l.breaks.length:Int))],.dec true,.reg [.none,.none,.none,(.row i_3 (ARat.cells v))],dr 14 0 [.none,(.pv (vB val)),.none,.none,.skip,.skip,.skip,(.dec true),.none,.skip,.skip,.skip,.skip],.auto,.reg []]) (cj (o_len ARat.cells l.breaks) (cj (dltN_t h1) (cj (o_at ARat.cells (Eq.refl (((i_3:Nat):Int):Int)) h2) (cj h3 (cj (bnot_t h4) (cj (bnot_t h4) (cj (bnot_t h4) (cj (bnot_t h4) (cj (Eq.refl true) (cj (Eq.refl true) (cj (Eq.refl true) (cj (Eq.refl true) True.intro)))))))))))) (by kernel_rfl)
theorem l11(i_3:Nat)(l:ALaw)(v:ARat)(val:Bool)(sig:Int)(h1:i_3<l.breaks.length)(h2:l.breaks[i_3]? = some v)(h3:Contract prg 48 [v.pv] (vB val))(h4:val=true)(h5:Contract prg 59 [v.pv] (vI sig))(h6:sig<0):Loop1 i_3 l (vI 3) :=
 L.done mixed tabOk (n:=159) (ns:=[1,1,3,1,1,1,1,1,1,1,1,1,1,1]) (tr:=[.auto,.reg [.none,.none,.none,(iI (l.breaks.length:Int))],.dec true,.reg [.none,.none,.none,(.row i_3 (ARat.cells v))],dr 14 0 [.none,(.pv (vB val)),.none,.none,.none,(.pv (vI sig)),.none,(.dec false),.none,.skip,.skip,.skip,.skip,(.dec true)],.auto,.reg []]) (cj (o_len ARat.cells l.breaks) (cj (dltN_t h1) (cj (o_at ARat.cells (Eq.refl (((i_3:Nat):Int):Int)) h2) (cj h3 (cj (bnot_f h4) (cj (bnot_f h4) (cj h5 (cj (bnot_f h4) (cj (bnot_f h4) (cj (dlt_t h6) (cj (dlt_t h6) (cj (dlt_t h6) (cj (dlt_t h6) (cj (dlt_t h6) True.intro)))))))))))))) (by kernel_rfl)
theorem l12(i_3:Nat)(l:ALaw)(v:ARat)(val:Bool)(sig:Int)(of:ARat)(cmp:Int)(h1:i_3<l.breaks.length)(h2:l.breaks[i_3]? = some v)(h3:Contract prg 48 [v.pv] (vB val))(h4:val=true)(h5:Contract prg 59 [v.pv] (vI sig))(h6:0≤sig)(h7:Contract prg 70 [(vI 1)] of.pv)(h8:Contract prg 99 [v.pv,of.pv] (vI cmp))(h9:0≤cmp):Loop1 i_3 l (vI 3) :=
 L.done mixed tabOk (n:=159) (ns:=[1,1,3,1,1,1,1,1,1,1,1,1,1,1,1,1,1]) (tr:=[.auto,.reg [.none,.none,.none,(iI (l.breaks.length:Int))],.dec true,.reg [.none,.none,.none,(.row i_3 (ARat.cells v))],dr 14 0 [.none,(.pv (vB val)),.none,.none,.none,(.pv (vI sig)),.none,(.dec false),.none,.none,(.pv of.pv),(.pv (vI cmp)),.none,(.dec false)],.dec true,.reg []]) (cj (o_len ARat.cells l.breaks) (cj (dltN_t h1) (cj (o_at ARat.cells (Eq.refl (((i_3:Nat):Int):Int)) h2) (cj h3 (cj (bnot_f h4) (cj (bnot_f h4) (cj h5 (cj (bnot_f h4) (cj (bnot_f h4) (cj (dlt_f h6) (cj (dlt_f h6) (cj h7 (cj (dlt_f h6) (cj h8 (cj (dlt_f h6) (cj (dlt_f h6) (cj (dle_t h9) True.intro))))))))))))))))) (by kernel_rfl)
theorem l13(i_3:Nat)(l:ALaw)(v:ARat)(val:Bool)(sig:Int)(of:ARat)(cmp sig1:Int)(h1:i_3<l.breaks.length)(h2:l.breaks[i_3]? = some v)(h3:Contract prg 48 [v.pv] (vB val))(h4:val=true)(h5:Contract prg 59 [v.pv] (vI sig))(h6:0≤sig)(h7:Contract prg 70 [(vI 1)] of.pv)(h8:Contract prg 99 [v.pv,of.pv] (vI cmp))(h9:cmp<0)(h10:i_3=0)(h11:Contract prg 59 [v.pv] (vI sig1))(h12:sig1≠0):Loop1 i_3 l (vI 12) :=
 L.done mixed tabOk (n:=171) (ns:=[1,1,3,1,1,1,1,1,1,1,1,1,1,1,1,1,1,1,1,1,1,1,1,1,1,1,1]) (tr:=[.auto,.reg [.none,.none,.none,(iI (l.breaks.length:Int))],.dec true,.reg [.none,.none,.none,(.row i_3 (ARat.cells v))],dr 14 0 [.none,(.pv (vB val)),.none,.none,.none,(.pv (vI sig)),.none,(.dec false),.none,.none,(.pv of.pv),(.pv (vI cmp)),.none,(.dec false)],.dec false,dr 22 0 [.none,.none,.none,.none,(.pv (vI sig1)),.none,(.dec true),.none,.skip,.skip,.skip,.skip,.skip,.skip,.skip,.skip,.skip,.skip,.skip,.skip,.skip,(.dec true)],.auto,.reg []]) (cj (o_len ARat.cells l.breaks) (cj (dltN_t h1) (cj (o_at ARat.cells (Eq.refl (((i_3:Nat):Int):Int)) h2) (cj h3 (cj (bnot_f h4) (cj (bnot_f h4) (cj h5 (cj (bnot_f h4) (cj (bnot_f h4) (cj (dlt_f h6) (cj (dlt_f h6) (cj h7 (cj (dlt_f h6) (cj h8 (cj (dlt_f h6) (cj (dlt_f h6) (cj (dle_f h9) (cj (deqN_t h10) (cj (deqN_t h10) (cj h11 (cj (deqN_t h10) (cj (deqN_t h10) (cj (dne_t h12) (cj (dne_t h12) (cj (dne_t h12) (cj (dne_t h12) (cj (dne_t h12) True.intro))))))))))))))))))))))))))) (by kernel_rfl)
theorem l16(i_3:Nat)(l:ALaw)(v:ARat)(val:Bool)(sig:Int)(of:ARat)(cmp sig1:Int){r:PV}(h1:i_3<l.breaks.length)(h2:l.breaks[i_3]? = some v)(h3:Contract prg 48 [v.pv] (vB val))(h4:val=true)(h5:Contract prg 59 [v.pv] (vI sig))(h6:0≤sig)(h7:Contract prg 70 [(vI 1)] of.pv)(h8:Contract prg 99 [v.pv,of.pv] (vI cmp))(h9:cmp<0)(h10:i_3=0)(h11:Contract prg 59 [v.pv] (vI sig1))(h12:sig1=0)(h13:i_3≤0)(h14:(i_3+1)<9223372036854775808)(hL:Loop1 (i_3+1) l r):Loop1 i_3 l r :=
 L.go mixed tabOk (n:=174) (ns:=[1,1,3,1,1,1,1,1,1,1,1,1,1,1,1,1,1,1,1,1,1,1,1,1,1,1,1,1,1,1,1,1,1,1,1,1,1,1]) (tr:=[.auto,.reg [.none,.none,.none,(iI (l.breaks.length:Int))],.dec true,.reg [.none,.none,.none,(.row i_3 (ARat.cells v))],dr 14 0 [.none,(.pv (vB val)),.none,.none,.none,(.pv (vI sig)),.none,(.dec false),.none,.none,(.pv of.pv),(.pv (vI cmp)),.none,(.dec false)],.dec false,dr 22 0 [.none,.none,.none,.none,(.pv (vI sig1)),.none,(.dec true),.none,.none,.none,.none,.skip,.skip,.skip,.skip,.skip,.skip,.skip,.skip,.skip,(.dec false),(.dec false)],.auto,.reg [.none,(iI (((i_3+1):Nat):Int))],.keep [1,3],.drop [4]]) (cj (o_len ARat.cells l.breaks) (cj (dltN_t h1) (cj (o_at ARat.cells (Eq.refl (((i_3:Nat):Int):Int)) h2) (cj h3 (cj (bnot_f h4) (cj (bnot_f h4) (cj h5 (cj (bnot_f h4) (cj (bnot_f h4) (cj (dlt_f h6) (cj (dlt_f h6) (cj h7 (cj (dlt_f h6) (cj h8 (cj (dlt_f h6) (cj (dlt_f h6) (cj (dle_f h9) (cj (deqN_t h10) (cj (deqN_t h10) (cj h11 (cj (deqN_t h10) (cj (deqN_t h10) (cj (dne_f h12) (cj (dne_f h12) (cj (dne_f h12) (cj (dltN_f h13) (cj (dltN_f h13) (cj (dltN_f h13) (cj (dltN_f h13) (cj (dltN_f h13) (cj (dltN_f h13) (cj (dltN_f h13) (cj (dltN_f h13) (cj (dltN_f h13) (cj (dne_f h12) (cj (dltN_f h13) (cj (dne_f h12) (cj (bs_addN h14) True.intro)))))))))))))))))))))))))))))))))))))) (by kernel_rfl) hL
theorem l17(i_3:Nat)(l:ALaw)(v:ARat)(val:Bool)(sig:Int)(of:ARat)(cmp:Int)(k:Nat)(v1:ARat)(cmp1:Int)(h1:i_3<l.breaks.length)(h2:l.breaks[i_3]? = some v)(h3:Contract prg 48 [v.pv] (vB val))(h4:val=true)(h5:Contract prg 59 [v.pv] (vI sig))(h6:0≤sig)(h7:Contract prg 70 [(vI 1)] of.pv)(h8:Contract prg 99 [v.pv,of.pv] (vI cmp))(h9:cmp<0)(h10:i_3≠0)(h11:0<i_3)(h12:InI64 ((i_3:Int)-1))(h13:((i_3:Int)-1)=(k:Int))(h14:l.breaks[k]? = some v1)(h15:Contract prg 99 [v.pv,v1.pv] (vI cmp1))(h16:cmp1≤0):Loop1 i_3 l (vI 12) :=
 L.done mixed tabOk (n:=171) (ns:=[1,1,3,1,1,1,1,1,1,1,1,1,1,1,1,1,1,1,1,1,1,1,1,1,1,1,1,1,1,1,1,3,1,1,1,1,1,1,1]) (tr:=[.auto,.reg [.none,.none,.none,(iI (l.breaks.length:Int))],.dec true,.reg [.none,.none,.none,(.row i_3 (ARat.cells v))],dr 14 0 [.none,(.pv (vB val)),.none,.none,.none,(.pv (vI sig)),.none,(.dec false),.none,.none,(.pv of.pv),(.pv (vI cmp)),.none,(.dec false)],.dec false,dr 22 0 [.none,.none,.none,.skip,.skip,.skip,(.dec false),.none,.none,.none,.none,.none,.none,.none,.none,(iI ((i_3:Int)-1)),(.row k (ARat.cells v1)),.none,(.pv (vI cmp1)),.none,(.dec true)],.dec true,.reg []]) (cj (o_len ARat.cells l.breaks) (cj (dltN_t h1) (cj (o_at ARat.cells (Eq.refl (((i_3:Nat):Int):Int)) h2) (cj h3 (cj (bnot_f h4) (cj (bnot_f h4) (cj h5 (cj (bnot_f h4) (cj (bnot_f h4) (cj (dlt_f h6) (cj (dlt_f h6) (cj h7 (cj (dlt_f h6) (cj h8 (cj (dlt_f h6) (cj (dlt_f h6) (cj (dle_f h9) (cj (deqN_f h10) (cj (deqN_f h10) (cj (deqN_f h10) (cj (deqN_f h10) (cj (Eq.refl false) (cj (Eq.refl false) (cj (Eq.refl false) (cj (dltN_t h11) (cj (dltN_t h11) (cj (dltN_t h11) (cj (dltN_t h11) (cj (dltN_t h11) (cj (bs_sub h12) (cj (dltN_t h11) (cj (o_at ARat.cells h13 h14) (cj (dltN_t h11) (cj (dltN_t h11) (cj h15 (cj (dltN_t h11) (cj (Eq.refl false) (cj (dltN_t h11) (cj (dle_t h16) True.intro))))))))))))))))))))))))))))))))))))))) (by kernel_rfl)
theorem l18(i_3:Nat)(l:ALaw)(v:ARat)(val:Bool)(sig:Int)(of:ARat)(cmp:Int)(k:Nat)(v1:ARat)(cmp1:Int){r:PV}(h1:i_3<l.breaks.length)(h2:l.breaks[i_3]? = some v)(h3:Contract prg 48 [v.pv] (vB val))(h4:val=true)(h5:Contract prg 59 [v.pv] (vI sig))(h6:0≤sig)(h7:Contract prg 70 [(vI 1)] of.pv)(h8:Contract prg 99 [v.pv,of.pv] (vI cmp))(h9:cmp<0)(h10:i_3≠0)(h11:0<i_3)(h12:InI64 ((i_3:Int)-1))(h13:((i_3:Int)-1)=(k:Int))(h14:l.breaks[k]? = some v1)(h15:Contract prg 99 [v.pv,v1.pv] (vI cmp1))(h16:0<cmp1)(h17:(i_3+1)<9223372036854775808)(hL:Loop1 (i_3+1) l r):Loop1 i_3 l r :=
 L.go mixed tabOk (n:=174) (ns:=[1,1,3,1,1,1,1,1,1,1,1,1,1,1,1,1,1,1,1,1,1,1,1,1,1,1,1,1,1,1,1,3,1,1,1,1,1,1,1,1]) (tr:=[.auto,.reg [.none,.none,.none,(iI (l.breaks.length:Int))],.dec true,.reg [.none,.none,.none,(.row i_3 (ARat.cells v))],dr 14 0 [.none,(.pv (vB val)),.none,.none,.none,(.pv (vI sig)),.none,(.dec false),.none,.none,(.pv of.pv),(.pv (vI cmp)),.none,(.dec false)],.dec false,dr 22 0 [.none,.none,.none,.skip,.skip,.skip,(.dec false),.none,.none,.none,.none,.none,.none,.none,.none,(iI ((i_3:Int)-1)),(.row k (ARat.cells v1)),.none,(.pv (vI cmp1)),.none,(.dec true)],.dec false,.reg [.none,(iI (((i_3+1):Nat):Int))],.keep [1,3],.drop [4]]) (cj (o_len ARat.cells l.breaks) (cj (dltN_t h1) (cj (o_at ARat.cells (Eq.refl (((i_3:Nat):Int):Int)) h2) (cj h3 (cj (bnot_f h4) (cj (bnot_f h4) (cj h5 (cj (bnot_f h4) (cj (bnot_f h4) (cj (dlt_f h6) (cj (dlt_f h6) (cj h7 (cj (dlt_f h6) (cj h8 (cj (dlt_f h6) (cj (dlt_f h6) (cj (dle_f h9) (cj (deqN_f h10) (cj (deqN_f h10) (cj (deqN_f h10) (cj (deqN_f h10) (cj (Eq.refl false) (cj (Eq.refl false) (cj (Eq.refl false) (cj (dltN_t h11) (cj (dltN_t h11) (cj (dltN_t h11) (cj (dltN_t h11) (cj (dltN_t h11) (cj (bs_sub h12) (cj (dltN_t h11) (cj (o_at ARat.cells h13 h14) (cj (dltN_t h11) (cj (dltN_t h11) (cj h15 (cj (dltN_t h11) (cj (Eq.refl false) (cj (dltN_t h11) (cj (dle_f h16) (cj (bs_addN h17) True.intro)))))))))))))))))))))))))))))))))))))))) (by kernel_rfl) hL
theorem l110(i_3:Nat)(l:ALaw){r:PV}(h1:l.breaks.length≤i_3)(hL:Loop2 0 l r):Loop1 i_3 l r :=
 L.go mixed tabOk (n:=153) (ns:=[1,1]) (tr:=[.auto,.reg [.none,.none,.none,(iI (l.breaks.length:Int))],.dec false,.reg [],.keep [1,5]]) (cj (o_len ARat.cells l.breaks) (cj (dltN_f h1) True.intro)) (by kernel_rfl) hL
theorem l20(i_5:Nat)(l:ALaw)(v:List ARat)(che:Int)(h1:i_5<l.pieces.length)(h2:l.pieces[i_5]? = some v)(h3:Contract prg 83 [(polyPV v)] (vI che))(h4:che≠0):Loop2 i_5 l (vI che) :=
 L.done mixed tabOk (n:=201) (ns:=[1,1,3,1,1]) (tr:=[.auto,.reg [.none,.none,.none,(iI (l.pieces.length:Int))],.dec true,.reg [.none,.none,.none,(.row i_5 ((lcell ARat.cells) v)),.none,(.pv (vI che))],.reg [],.dec true,.reg []]) (cj (o_len (lcell ARat.cells) l.pieces) (cj (dltN_t h1) (cj (o_at (lcell ARat.cells) (Eq.refl (((i_5:Nat):Int):Int)) h2) (cj h3 (cj (dne_t h4) True.intro))))) (by kernel_rfl)
theorem l21(i_5:Nat)(l:ALaw)(v:List ARat)(che:Int)(h1:i_5<l.pieces.length)(h2:l.pieces[i_5]? = some v)(h3:Contract prg 83 [(polyPV v)] (vI che))(h4:che=0)(h5:9<v.length):Loop2 i_5 l (vI 4) :=
 L.done mixed tabOk (n:=213) (ns:=[1,1,3,1,1,3,1,1]) (tr:=[.auto,.reg [.none,.none,.none,(iI (l.pieces.length:Int))],.dec true,.reg [.none,.none,.none,(.row i_5 ((lcell ARat.cells) v)),.none,(.pv (vI che))],.reg [],.dec false,.reg [.none,.none,.none,(.row i_5 ((lcell ARat.cells) v)),.none,(iI (v.length:Int))],.dec true,.reg []]) (cj (o_len (lcell ARat.cells) l.pieces) (cj (dltN_t h1) (cj (o_at (lcell ARat.cells) (Eq.refl (((i_5:Nat):Int):Int)) h2) (cj h3 (cj (dne_f h4) (cj (o_at (lcell ARat.cells) (Eq.refl (((i_5:Nat):Int):Int)) h2) (cj (o_len ARat.cells v) (cj (dltN_t h5) True.intro)))))))) (by kernel_rfl)
theorem l22(i_5:Nat)(l:ALaw)(v:List ARat)(che:Int){r:PV}(h1:i_5<l.pieces.length)(h2:l.pieces[i_5]? = some v)(h3:Contract prg 83 [(polyPV v)] (vI che))(h4:che=0)(h5:v.length≤9)(h6:(i_5+1)<9223372036854775808)(hL:Loop2 (i_5+1) l r):Loop2 i_5 l r :=
 L.go mixed tabOk (n:=216) (ns:=[1,1,3,1,1,3,1,1,1]) (tr:=[.auto,.reg [.none,.none,.none,(iI (l.pieces.length:Int))],.dec true,.reg [.none,.none,.none,(.row i_5 ((lcell ARat.cells) v)),.none,(.pv (vI che))],.reg [],.dec false,.reg [.none,.none,.none,(.row i_5 ((lcell ARat.cells) v)),.none,(iI (v.length:Int))],.dec false,.reg [.none,(iI (((i_5+1):Nat):Int))],.keep [1,5]]) (cj (o_len (lcell ARat.cells) l.pieces) (cj (dltN_t h1) (cj (o_at (lcell ARat.cells) (Eq.refl (((i_5:Nat):Int):Int)) h2) (cj h3 (cj (dne_f h4) (cj (o_at (lcell ARat.cells) (Eq.refl (((i_5:Nat):Int):Int)) h2) (cj (o_len ARat.cells v) (cj (dltN_f h5) (cj (bs_addN h6) True.intro))))))))) (by kernel_rfl) hL
theorem l23(i_5:Nat)(l:ALaw)(h1:l.pieces.length≤i_5):Loop2 i_5 l (vI 0) :=
 L.done mixed tabOk (n:=186) (ns:=[1,1]) (tr:=[.auto,.reg [.none,.none,.none,(iI (l.pieces.length:Int))],.dec false,.reg []]) (cj (o_len (lcell ARat.cells) l.pieces) (cj (dltN_f h1) True.intro)) (by kernel_rfl)
end linkworkref52_Check
namespace law_At
theorem e1(l:ALaw)(x:ARat)(val:Bool)(wra:ARat)(pie:Int)(k:Nat)(v:List ARat)(k1:Nat)(v1 sub eva:ARat)(eva1:Option Int)(h1:Contract prg 114 [l.pv] .nilI)(h2:Contract prg 97 [x.pv] (vB val))(h3:val=true)(h4:Contract prg 142 [x.pv] (.tup [wra.pv,.nilI]))(h5:Contract prg 147 [l.pv,wra.pv] (vI pie))(h6:pie=(k:Int))(h7:l.pieces[k]? = some v)(h8:pie=(k1:Int))(h9:l.breaks[k1]? = some v1)(h10:Contract prg 146 [wra.pv,v1.pv] sub.pv)(h11:Contract prg 27 [(polyPV v),sub.pv] (.tup [eva.pv,(errPV eva1)])):Contract prg 107 [l.pv,x.pv] (.tup [eva.pv,(errPV eva1)]) :=
 Contract.ofL Tryz.func107 (by kernel_rfl) (L.done mixed tabOk (n:=135) (ns:=[1,1,1,1,1,3,3,1,1]) (tr:=[.reg [],.reg [.none,(.pv .nilI)],.reg [],.auto,.reg [.none,(.pv (vB val))],.dec false,.reg [.none,(.pv (.tup [wra.pv,.nilI]))],.reg [],.auto,.reg [.none,.none,(.pv (vI pie))],dr 15 2 [.none,.none,.none,(.row k ((lcell ARat.cells) v)),.none,.none,.none,.none,.none,(.row k1 (ARat.cells v1)),.none,(.pv sub.pv),(.pv (.tup [eva.pv,(errPV eva1)]))]]) (cj h1 (cj h2 (cj (bnot_f h3) (cj h4 (cj h5 (cj (o_at (lcell ARat.cells) h6 h7) (cj (o_at ARat.cells h8 h9) (cj h10 (cj h11 True.intro))))))))) (by kernel_rfl))
end law_At
namespace law_Check
@[reducible] noncomputable def fn:Func:=Tryz.f114
noncomputable def atK1:List Itm:=focus [0,2,0,0,2,1,2,0,0,2,1,2,0,0,2,0,0] [.code (bodyOf fn)]
def inv1(l:ALaw)(t_30:Nat):St:=⟨[(1,(.ptr 1 0)),(28,(.pv (polyPV l.breaks))),(29,(eI (l.breaks.length:Int))),(30,(eI (t_30:Int)))],[(1,(.lit [(.pv (polyPV l.breaks)),(.pv (lpv (lcell ARat.cells) l.pieces))]))]⟩
@[reducible] noncomputable def Loop1(l:ALaw)(t_30:Nat)(r:PV):Prop:=L prg fn atK1 (inv1 l t_30) r
noncomputable def atK2:List Itm:=focus [0,2,0,0,2,1,2,0,0,2,1,2,0,0,2,0,0,0,0,2,0,1,2,2,2,2,0,0,2,0,0] [.code (bodyOf fn)]
def inv2(l:ALaw)(t_77:Nat):St:=⟨[(75,(.pv (lpv (lcell ARat.cells) l.pieces))),(76,(eI (l.pieces.length:Int))),(77,(eI (t_77:Int)))],[]⟩
@[reducible] noncomputable def Loop2(l:ALaw)(t_77:Nat)(r:PV):Prop:=L prg fn atK2 (inv2 l t_77) r
theorem e0(l:ALaw)(h1:l.breaks.length=0):Contract prg 114 [l.pv] (.iface 94 (vI 10)) :=
 Contract.ofL Tryz.func114 (by kernel_rfl) (L.done mixed tabOk (n:=84) (ns:=[1,1,1,1,1,1,1,1,1]) (tr:=[.reg [],.reg [.none,.none,(iI (l.breaks.length:Int)),.none,.none,.skip,.skip,.skip,.skip,.skip,.skip,.skip,(.dec true)],.auto,.reg []]) (cj (o_len ARat.cells l.breaks) (cj (deqN_t h1) (cj (deqN_t h1) (cj (deqN_t h1) (cj (deqN_t h1) (cj (deqN_t h1) (cj (deqN_t h1) (cj (deqN_t h1) (cj (deqN_t h1) True.intro))))))))) (by kernel_rfl))
theorem e1(l:ALaw)(h1:l.breaks.length≠0)(h2:l.breaks.length≠l.pieces.length):Contract prg 114 [l.pv] (.iface 94 (vI 10)) :=
 Contract.ofL Tryz.func114 (by kernel_rfl) (L.done mixed tabOk (n:=84) (ns:=[1,1,1,1,1,1,1,1,1,1,1,1]) (tr:=[.reg [],.reg [.none,.none,(iI (l.breaks.length:Int)),.none,.none,.none,.none,(iI (l.breaks.length:Int)),.none,.none,(iI (l.pieces.length:Int)),.none,(.dec false)],.dec true,.reg []]) (cj (o_len ARat.cells l.breaks) (cj (deqN_f h1) (cj (deqN_f h1) (cj (deqN_f h1) (cj (o_len ARat.cells l.breaks) (cj (deqN_f h1) (cj (deqN_f h1) (cj (deqN_f h1) (cj (o_len (lcell ARat.cells) l.pieces) (cj (deqN_f h1) (cj (deqN_f h1) (cj (dneN_t h2) True.intro)))))))))))) (by kernel_rfl))
theorem e2(l:ALaw)(h1:l.breaks.length≠0)(h2:l.breaks.length=l.pieces.length)(h3:16<l.breaks.length):Contract prg 114 [l.pv] (.iface 94 (vI 4)) :=
 Contract.ofL Tryz.func114 (by kernel_rfl) (L.done mixed tabOk (n:=99) (ns:=[1,1,1,1,1,1,1,1,1,1,1,1,1,1]) (tr:=[.reg [],.reg [.none,.none,(iI (l.breaks.length:Int)),.none,.none,.none,.none,(iI (l.breaks.length:Int)),.none,.none,(iI (l.pieces.length:Int)),.none,(.dec false)],.dec false,.reg [.none,.none,(iI (l.breaks.length:Int))],.dec true,.reg []]) (cj (o_len ARat.cells l.breaks) (cj (deqN_f h1) (cj (deqN_f h1) (cj (deqN_f h1) (cj (o_len ARat.cells l.breaks) (cj (deqN_f h1) (cj (deqN_f h1) (cj (deqN_f h1) (cj (o_len (lcell ARat.cells) l.pieces) (cj (deqN_f h1) (cj (deqN_f h1) (cj (dneN_f h2) (cj (o_len ARat.cells l.breaks) (cj (dltN_t h3) True.intro)))))))))))))) (by kernel_rfl))
theorem e3(l:ALaw){r:PV}(h1:l.breaks.length≠0)(h2:l.breaks.length=l.pieces.length)(h3:l.breaks.length≤16)(hL:Loop1 l 0 r):Contract prg 114 [l.pv] r :=
 Contract.ofL Tryz.func114 (by kernel_rfl) (L.go mixed tabOk (n:=111) (ns:=[1,1,1,1,1,1,1,1,1,1,1,1,1,1,1]) (tr:=[.reg [],.reg [.none,.none,(iI (l.breaks.length:Int)),.none,.none,.none,.none,(iI (l.breaks.length:Int)),.none,.none,(iI (l.pieces.length:Int)),.none,(.dec false)],.dec false,.reg [.none,.none,(iI (l.breaks.length:Int))],.dec false,.reg [.none,.none,(iI (l.breaks.length:Int))],.keep [1,28,29,30]]) (cj (o_len ARat.cells l.breaks) (cj (deqN_f h1) (cj (deqN_f h1) (cj (deqN_f h1) (cj (o_len ARat.cells l.breaks) (cj (deqN_f h1) (cj (deqN_f h1) (cj (deqN_f h1) (cj (o_len (lcell ARat.cells) l.pieces) (cj (deqN_f h1) (cj (deqN_f h1) (cj (dneN_f h2) (cj (o_len ARat.cells l.breaks) (cj (dltN_f h3) (cj (o_len ARat.cells l.breaks) True.intro))))))))))))))) (by kernel_rfl) hL)
theorem l10(l:ALaw)(t_30:Nat)(v:ARat)(val:Bool)(h1:t_30<l.breaks.length)(h2:l.breaks[t_30]? = some v)(h3:Contract prg 97 [v.pv] (vB val))(h4:val=false):Loop1 l t_30 (.iface 94 (vI 3)) :=
 L.done mixed tabOk (n:=159) (ns:=[1,3,1,1,1,1,1,1,1,1,1]) (tr:=[.auto,.reg [],.dec true,.reg [.none,(.row t_30 (ARat.cells v))],dr 14 0 [.none,(.pv (vB val)),.none,.none,.skip,.skip,.skip,(.dec true),.none,.skip,.skip,.skip,.skip],.auto,.reg []]) (cj (dltN_t h1) (cj (o_at ARat.cells (Eq.refl (((t_30:Nat):Int):Int)) h2) (cj h3 (cj (bnot_t h4) (cj (bnot_t h4) (cj (bnot_t h4) (cj (bnot_t h4) (cj (Eq.refl true) (cj (Eq.refl true) (cj (Eq.refl true) (cj (Eq.refl true) True.intro))))))))))) (by kernel_rfl)
theorem l11(l:ALaw)(t_30:Nat)(v:ARat)(val:Bool)(sig:Int)(h1:t_30<l.breaks.length)(h2:l.breaks[t_30]? = some v)(h3:Contract prg 97 [v.pv] (vB val))(h4:val=true)(h5:Contract prg 39 [v.pv] (vI sig))(h6:sig<0):Loop1 l t_30 (.iface 94 (vI 3)) :=
 L.done mixed tabOk (n:=159) (ns:=[1,3,1,1,1,1,1,1,1,1,1,1,1]) (tr:=[.auto,.reg [],.dec true,.reg [.none,(.row t_30 (ARat.cells v))],dr 14 0 [.none,(.pv (vB val)),.none,.none,.none,(.pv (vI sig)),.none,(.dec false),.none,.skip,.skip,.skip,.skip,(.dec true)],.auto,.reg []]) (cj (dltN_t h1) (cj (o_at ARat.cells (Eq.refl (((t_30:Nat):Int):Int)) h2) (cj h3 (cj (bnot_f h4) (cj (bnot_f h4) (cj h5 (cj (bnot_f h4) (cj (bnot_f h4) (cj (dlt_t h6) (cj (dlt_t h6) (cj (dlt_t h6) (cj (dlt_t h6) (cj (dlt_t h6) True.intro))))))))))))) (by kernel_rfl)
theorem l12(l:ALaw)(t_30:Nat)(v:ARat)(val:Bool)(sig:Int)(one:ARat)(cmp:Int)(h1:t_30<l.breaks.length)(h2:l.breaks[t_30]? = some v)(h3:Contract prg 97 [v.pv] (vB val))(h4:val=true)(h5:Contract prg 39 [v.pv] (vI sig))(h6:0≤sig)(h7:Contract prg 149 [] one.pv)(h8:Contract prg 29 [v.pv,one.pv] (vI cmp))(h9:0≤cmp):Loop1 l t_30 (.iface 94 (vI 3)) :=
 L.done mixed tabOk (n:=159) (ns:=[1,3,1,1,1,1,1,1,1,1,1,1,1,1,1,1]) (tr:=[.auto,.reg [],.dec true,.reg [.none,(.row t_30 (ARat.cells v))],dr 14 0 [.none,(.pv (vB val)),.none,.none,.none,(.pv (vI sig)),.none,(.dec false),.none,.none,(.pv one.pv),(.pv (vI cmp)),.none,(.dec false)],.dec true,.reg []]) (cj (dltN_t h1) (cj (o_at ARat.cells (Eq.refl (((t_30:Nat):Int):Int)) h2) (cj h3 (cj (bnot_f h4) (cj (bnot_f h4) (cj h5 (cj (bnot_f h4) (cj (bnot_f h4) (cj (dlt_f h6) (cj (dlt_f h6) (cj h7 (cj (dlt_f h6) (cj h8 (cj (dlt_f h6) (cj (dlt_f h6) (cj (dle_t h9) True.intro)))))))))))))))) (by kernel_rfl)
theorem l13(l:ALaw)(t_30:Nat)(v:ARat)(val:Bool)(sig:Int)(one:ARat)(cmp sig1:Int)(h1:t_30<l.breaks.length)(h2:l.breaks[t_30]? = some v)(h3:Contract prg 97 [v.pv] (vB val))(h4:val=true)(h5:Contract prg 39 [v.pv] (vI sig))(h6:0≤sig)(h7:Contract prg 149 [] one.pv)(h8:Contract prg 29 [v.pv,one.pv] (vI cmp))(h9:cmp<0)(h10:t_30=0)(h11:Contract prg 39 [v.pv] (vI sig1))(h12:sig1≠0):Loop1 l t_30 (.iface 94 (vI 12)) :=
 L.done mixed tabOk (n:=171) (ns:=[1,3,1,1,1,1,1,1,1,1,1,1,1,1,1,1,1,1,1,1,1,1,1,1,1,1]) (tr:=[.auto,.reg [],.dec true,.reg [.none,(.row t_30 (ARat.cells v))],dr 14 0 [.none,(.pv (vB val)),.none,.none,.none,(.pv (vI sig)),.none,(.dec false),.none,.none,(.pv one.pv),(.pv (vI cmp)),.none,(.dec false)],.dec false,dr 22 0 [.none,.none,.none,.none,(.pv (vI sig1)),.none,(.dec true),.none,.skip,.skip,.skip,.skip,.skip,.skip,.skip,.skip,.skip,.skip,.skip,.skip,.skip,(.dec true)],.auto,.reg []]) (cj (dltN_t h1) (cj (o_at ARat.cells (Eq.refl (((t_30:Nat):Int):Int)) h2) (cj h3 (cj (bnot_f h4) (cj (bnot_f h4) (cj h5 (cj (bnot_f h4) (cj (bnot_f h4) (cj (dlt_f h6) (cj (dlt_f h6) (cj h7 (cj (dlt_f h6) (cj h8 (cj (dlt_f h6) (cj (dlt_f h6) (cj (dle_f h9) (cj (deqN_t h10) (cj (deqN_t h10) (cj h11 (cj (deqN_t h10) (cj (deqN_t h10) (cj (dne_t h12) (cj (dne_t h12) (cj (dne_t h12) (cj (dne_t h12) (cj (dne_t h12) True.intro)))))))))))))))))))))))))) (by kernel_rfl)
theorem l16(l:ALaw)(t_30:Nat)(v:ARat)(val:Bool)(sig:Int)(one:ARat)(cmp sig1:Int){r:PV}(h1:t_30<l.breaks.length)(h2:l.breaks[t_30]? = some v)(h3:Contract prg 97 [v.pv] (vB val))(h4:val=true)(h5:Contract prg 39 [v.pv] (vI sig))(h6:0≤sig)(h7:Contract prg 149 [] one.pv)(h8:Contract prg 29 [v.pv,one.pv] (vI cmp))(h9:cmp<0)(h10:t_30=0)(h11:Contract prg 39 [v.pv] (vI sig1))(h12:sig1=0)(h13:t_30≤0)(h14:(t_30+1)<9223372036854775808)(hL:Loop1 l (t_30+1) r):Loop1 l t_30 r :=
 L.go mixed tabOk (n:=174) (ns:=[1,3,1,1,1,1,1,1,1,1,1,1,1,1,1,1,1,1,1,1,1,1,1,1,1,1,1,1,1,1,1,1,1,1,1,1,1]) (tr:=[.auto,.reg [],.dec true,.reg [.none,(.row t_30 (ARat.cells v))],dr 14 0 [.none,(.pv (vB val)),.none,.none,.none,(.pv (vI sig)),.none,(.dec false),.none,.none,(.pv one.pv),(.pv (vI cmp)),.none,(.dec false)],.dec false,dr 22 0 [.none,.none,.none,.none,(.pv (vI sig1)),.none,(.dec true),.none,.none,.none,.none,.skip,.skip,.skip,.skip,.skip,.skip,.skip,.skip,.skip,(.dec false),(.dec false)],.auto,.reg [(iI (((t_30+1):Nat):Int))],.keep [1,28,29,30],.drop [4]]) (cj (dltN_t h1) (cj (o_at ARat.cells (Eq.refl (((t_30:Nat):Int):Int)) h2) (cj h3 (cj (bnot_f h4) (cj (bnot_f h4) (cj h5 (cj (bnot_f h4) (cj (bnot_f h4) (cj (dlt_f h6) (cj (dlt_f h6) (cj h7 (cj (dlt_f h6) (cj h8 (cj (dlt_f h6) (cj (dlt_f h6) (cj (dle_f h9) (cj (deqN_t h10) (cj (deqN_t h10) (cj h11 (cj (deqN_t h10) (cj (deqN_t h10) (cj (dne_f h12) (cj (dne_f h12) (cj (dne_f h12) (cj (dltN_f h13) (cj (dltN_f h13) (cj (dltN_f h13) (cj (dltN_f h13) (cj (dltN_f h13) (cj (dltN_f h13) (cj (dltN_f h13) (cj (dltN_f h13) (cj (dltN_f h13) (cj (dne_f h12) (cj (dltN_f h13) (cj (dne_f h12) (cj (bs_addN h14) True.intro))))))))))))))))))))))))))))))))))))) (by kernel_rfl) hL
theorem l17(l:ALaw)(t_30:Nat)(v:ARat)(val:Bool)(sig:Int)(one:ARat)(cmp:Int)(k:Nat)(v1:ARat)(cmp1:Int)(h1:t_30<l.breaks.length)(h2:l.breaks[t_30]? = some v)(h3:Contract prg 97 [v.pv] (vB val))(h4:val=true)(h5:Contract prg 39 [v.pv] (vI sig))(h6:0≤sig)(h7:Contract prg 149 [] one.pv)(h8:Contract prg 29 [v.pv,one.pv] (vI cmp))(h9:cmp<0)(h10:t_30≠0)(h11:0<t_30)(h12:InI64 ((t_30:Int)-1))(h13:((t_30:Int)-1)=(k:Int))(h14:l.breaks[k]? = some v1)(h15:Contract prg 29 [v.pv,v1.pv] (vI cmp1))(h16:cmp1≤0):Loop1 l t_30 (.iface 94 (vI 12)) :=
 L.done mixed tabOk (n:=171) (ns:=[1,3,1,1,1,1,1,1,1,1,1,1,1,1,1,1,1,1,1,1,1,1,1,1,1,1,1,1,1,1,3,1,1,1,1,1,1,1]) (tr:=[.auto,.reg [],.dec true,.reg [.none,(.row t_30 (ARat.cells v))],dr 14 0 [.none,(.pv (vB val)),.none,.none,.none,(.pv (vI sig)),.none,(.dec false),.none,.none,(.pv one.pv),(.pv (vI cmp)),.none,(.dec false)],.dec false,dr 22 0 [.none,.none,.none,.skip,.skip,.skip,(.dec false),.none,.none,.none,.none,.none,.none,.none,.none,(iI ((t_30:Int)-1)),(.row k (ARat.cells v1)),.none,(.pv (vI cmp1)),.none,(.dec true)],.dec true,.reg []]) (cj (dltN_t h1) (cj (o_at ARat.cells (Eq.refl (((t_30:Nat):Int):Int)) h2) (cj h3 (cj (bnot_f h4) (cj (bnot_f h4) (cj h5 (cj (bnot_f h4) (cj (bnot_f h4) (cj (dlt_f h6) (cj (dlt_f h6) (cj h7 (cj (dlt_f h6) (cj h8 (cj (dlt_f h6) (cj (dlt_f h6) (cj (dle_f h9) (cj (deqN_f h10) (cj (deqN_f h10) (cj (deqN_f h10) (cj (deqN_f h10) (cj (Eq.refl false) (cj (Eq.refl false) (cj (Eq.refl false) (cj (dltN_t h11) (cj (dltN_t h11) (cj (dltN_t h11) (cj (dltN_t h11) (cj (dltN_t h11) (cj (bs_sub h12) (cj (dltN_t h11) (cj (o_at ARat.cells h13 h14) (cj (dltN_t h11) (cj (dltN_t h11) (cj h15 (cj (dltN_t h11) (cj (Eq.refl false) (cj (dltN_t h11) (cj (dle_t h16) True.intro)))))))))))))))))))))))))))))))))))))) (by kernel_rfl)
theorem l18(l:ALaw)(t_30:Nat)(v:ARat)(val:Bool)(sig:Int)(one:ARat)(cmp:Int)(k:Nat)(v1:ARat)(cmp1:Int){r:PV}(h1:t_30<l.breaks.length)(h2:l.breaks[t_30]? = some v)(h3:Contract prg 97 [v.pv] (vB val))(h4:val=true)(h5:Contract prg 39 [v.pv] (vI sig))(h6:0≤sig)(h7:Contract prg 149 [] one.pv)(h8:Contract prg 29 [v.pv,one.pv] (vI cmp))(h9:cmp<0)(h10:t_30≠0)(h11:0<t_30)(h12:InI64 ((t_30:Int)-1))(h13:((t_30:Int)-1)=(k:Int))(h14:l.breaks[k]? = some v1)(h15:Contract prg 29 [v.pv,v1.pv] (vI cmp1))(h16:0<cmp1)(h17:(t_30+1)<9223372036854775808)(hL:Loop1 l (t_30+1) r):Loop1 l t_30 r :=
 L.go mixed tabOk (n:=174) (ns:=[1,3,1,1,1,1,1,1,1,1,1,1,1,1,1,1,1,1,1,1,1,1,1,1,1,1,1,1,1,1,3,1,1,1,1,1,1,1,1]) (tr:=[.auto,.reg [],.dec true,.reg [.none,(.row t_30 (ARat.cells v))],dr 14 0 [.none,(.pv (vB val)),.none,.none,.none,(.pv (vI sig)),.none,(.dec false),.none,.none,(.pv one.pv),(.pv (vI cmp)),.none,(.dec false)],.dec false,dr 22 0 [.none,.none,.none,.skip,.skip,.skip,(.dec false),.none,.none,.none,.none,.none,.none,.none,.none,(iI ((t_30:Int)-1)),(.row k (ARat.cells v1)),.none,(.pv (vI cmp1)),.none,(.dec true)],.dec false,.reg [(iI (((t_30+1):Nat):Int))],.keep [1,28,29,30],.drop [4]]) (cj (dltN_t h1) (cj (o_at ARat.cells (Eq.refl (((t_30:Nat):Int):Int)) h2) (cj h3 (cj (bnot_f h4) (cj (bnot_f h4) (cj h5 (cj (bnot_f h4) (cj (bnot_f h4) (cj (dlt_f h6) (cj (dlt_f h6) (cj h7 (cj (dlt_f h6) (cj h8 (cj (dlt_f h6) (cj (dlt_f h6) (cj (dle_f h9) (cj (deqN_f h10) (cj (deqN_f h10) (cj (deqN_f h10) (cj (deqN_f h10) (cj (Eq.refl false) (cj (Eq.refl false) (cj (Eq.refl false) (cj (dltN_t h11) (cj (dltN_t h11) (cj (dltN_t h11) (cj (dltN_t h11) (cj (dltN_t h11) (cj (bs_sub h12) (cj (dltN_t h11) (cj (o_at ARat.cells h13 h14) (cj (dltN_t h11) (cj (dltN_t h11) (cj h15 (cj (dltN_t h11) (cj (Eq.refl false) (cj (dltN_t h11) (cj (dle_f h16) (cj (bs_addN h17) True.intro))))))))))))))))))))))))))))))))))))))) (by kernel_rfl) hL
theorem l110(l:ALaw)(t_30:Nat){r:PV}(h1:l.breaks.length≤t_30)(hL:Loop2 l 0 r):Loop1 l t_30 r :=
 L.go mixed tabOk (n:=153) (ns:=[1,1]) (tr:=[.auto,.reg [],.dec false,.reg [.none,.none,(iI (l.pieces.length:Int))],.keep [75,76,77],.drop [1]]) (cj (dltN_f h1) (cj (o_len (lcell ARat.cells) l.pieces) True.intro)) (by kernel_rfl) hL
theorem l20(l:ALaw)(t_77:Nat)(v:List ARat)(deg:Int)(h1:t_77<l.pieces.length)(h2:l.pieces[t_77]? = some v)(h3:Contract prg 78 [(polyPV v)] .nilI)(h4:Contract prg 157 [(polyPV v)] (vI deg))(h5:8<deg):Loop2 l t_77 (.iface 94 (vI 4)) :=
 L.done mixed tabOk (n:=219) (ns:=[1,3,1,1,1]) (tr:=[.auto,.reg [],.dec true,.reg [(.row t_77 ((lcell ARat.cells) v))],.reg [.none,(.pv .nilI)],.reg [],.auto,.reg [.none,(.pv (vI deg))],.dec true,.reg []]) (cj (dltN_t h1) (cj (o_at (lcell ARat.cells) (Eq.refl (((t_77:Nat):Int):Int)) h2) (cj h3 (cj h4 (cj (dlt_t h5) True.intro))))) (by kernel_rfl)
theorem l21(l:ALaw)(t_77:Nat)(v:List ARat)(deg:Int){r:PV}(h1:t_77<l.pieces.length)(h2:l.pieces[t_77]? = some v)(h3:Contract prg 78 [(polyPV v)] .nilI)(h4:Contract prg 157 [(polyPV v)] (vI deg))(h5:deg≤8)(h6:(t_77+1)<9223372036854775808)(hL:Loop2 l (t_77+1) r):Loop2 l t_77 r :=
 L.go mixed tabOk (n:=222) (ns:=[1,3,1,1,1,1]) (tr:=[.auto,.reg [],.dec true,.reg [(.row t_77 ((lcell ARat.cells) v))],.reg [.none,(.pv .nilI)],.reg [],.auto,.reg [.none,(.pv (vI deg))],.dec false,.reg [(iI (((t_77+1):Nat):Int))],.keep [75,76,77]]) (cj (dltN_t h1) (cj (o_at (lcell ARat.cells) (Eq.refl (((t_77:Nat):Int):Int)) h2) (cj h3 (cj h4 (cj (dlt_f h5) (cj (bs_addN h6) True.intro)))))) (by kernel_rfl) hL
theorem l22(l:ALaw)(t_77:Nat)(v:List ARat)(che:Int)(h1:t_77<l.pieces.length)(h2:l.pieces[t_77]? = some v)(h3:Contract prg 78 [(polyPV v)] (.iface 94 (vI che))):Loop2 l t_77 (.iface 94 (vI che)) :=
 L.done mixed tabOk (n:=207) (ns:=[1,3,1]) (tr:=[.auto,.reg [],.dec true,.reg [(.row t_77 ((lcell ARat.cells) v))],.reg [.none,(.pv (.iface 94 (vI che)))],.reg [],.auto,.reg []]) (cj (dltN_t h1) (cj (o_at (lcell ARat.cells) (Eq.refl (((t_77:Nat):Int):Int)) h2) (cj h3 True.intro))) (by kernel_rfl)
theorem l23(l:ALaw)(t_77:Nat)(h1:l.pieces.length≤t_77):Loop2 l t_77 .nilI :=
 L.done mixed tabOk (n:=186) (ns:=[1]) (tr:=[.auto,.reg [],.dec false,.reg []]) (cj (dltN_f h1) True.intro) (by kernel_rfl)
end law_Check
namespace law_wrapped
theorem e0(x:ARat)(flo who:AWhole)(fro sub:ARat)(h1:Contract prg 208 [x.pv] flo.pv)(h2:Contract prg 209 [] who.pv)(h3:Contract prg 186 [flo.pv,who.pv] (.tup [fro.pv,.nilI]))(h4:Contract prg 146 [x.pv,fro.pv] sub.pv):Contract prg 142 [x.pv] (.tup [sub.pv,.nilI]) :=
 Contract.ofL Tryz.func142 (by kernel_rfl) (L.done mixed tabOk (n:=93) (ns:=[1,1,1,1]) (tr:=[.reg [],.reg [.none,(.pv flo.pv),(.pv who.pv),(.pv (.tup [fro.pv,.nilI]))],.reg [],.auto,.reg [.none,.none,(.pv sub.pv)]]) (cj h1 (cj h2 (cj h3 (cj h4 True.intro)))) (by kernel_rfl))
end law_wrapped
namespace slices_ContainsFunc_Rat
theorem e0(s:List ARat)(len:Nat)(f:ARat)(z:List ARat)(rat:Int)(h1:ContractX prg 210 [.row 100000 0 len 3,.clo 144 100001] [(100000,(.pure ((s:List ARat).map ARat.cells).flatten)),(100001,(.lit [(eB f.neg),(.pv (wordsPV f.num)),(.pv (wordsPV f.den))]))] (.pv (vI rat)) [(100000,(.pure ((z:List ARat).map ARat.cells).flatten)),(100001,(.lit [(eB f.neg),(.pv (wordsPV f.num)),(.pv (wordsPV f.den))]))]):ContractX prg 143 [(.row 100000 0 len 3),(.clo 144 100001)] [(100000,(.pure ((s:List ARat).map ARat.cells).flatten)),(100001,(.lit [(eB f.neg),(.pv (wordsPV f.num)),(.pv (wordsPV f.den))]))] (.pv (vB (decide (rat≥0)))) [(100000,(.pure ((z:List ARat).map ARat.cells).flatten)),(100001,(.lit [(eB f.neg),(.pv (wordsPV f.num)),(.pv (wordsPV f.den))]))] :=
 ContractX.ofL Tryz.func143 (by kernel_rfl) (LX.done mixed tabOk (n:=72) (ns:=[1]) (tr:=[.reg [],.reg [.none,.none,(.callX [(100000,100000),(100001,100001)] none (.pv (vI rat)) [(100000,(.pure ((z:List ARat).map ARat.cells).flatten)),(100001,(.lit [(eB f.neg),(.pv (wordsPV f.num)),(.pv (wordsPV f.den))]))])],.ord [100000,100001]]) rfl (cj h1 True.intro) (by kernel_rfl))
end slices_ContainsFunc_Rat
namespace law_Shift_1
theorem e0(y x:ARat)(cmp:Int)(h1:Contract prg 29 [x.pv,y.pv] (vI cmp)):ContractX prg 144 [(.pv y.pv),(.ptr 100001 0)] [(100001,(.lit [(eB x.neg),(.pv (wordsPV x.num)),(.pv (wordsPV x.den))]))] (.pv (vB (cmp==0))) [(100001,(.lit [(eB x.neg),(.pv (wordsPV x.num)),(.pv (wordsPV x.den))]))] :=
 ContractX.ofL Tryz.func144 (by kernel_rfl) (LX.done mixed tabOk (n:=72) (ns:=[1]) (tr:=[.reg [],.reg [.none,.none,(.pv (vI cmp))],.drop [2],.ord [100001]]) rfl (cj h1 True.intro) (by kernel_rfl))
end law_Shift_1
namespace law_piece
@[reducible] noncomputable def fn:Func:=Tryz.f147
noncomputable def atK1:List Itm:=focus [0,2,0,2,0,0,0] [.code (bodyOf fn)]
def inv1(i_5:Int)(l:ALaw)(x:ARat):St:=⟨[(2,(.ptr 2 0)),(3,(.ptr 3 0)),(5,(eI i_5))],[(2,(.lit [(.pv (polyPV l.breaks)),(.pv (lpv (lcell ARat.cells) l.pieces))])),(3,(.lit [(eB x.neg),(.pv (wordsPV x.num)),(.pv (wordsPV x.den))]))]⟩
@[reducible] noncomputable def Loop1(i_5:Int)(l:ALaw)(x:ARat)(r:PV):Prop:=L prg fn atK1 (inv1 i_5 l x) r
theorem e0(l:ALaw)(x:ARat){r:PV}(h1:InI64 ((l.breaks.length:Int)-1))(hL:Loop1 ((l.breaks.length:Int)-1) l x r):Contract prg 147 [l.pv,x.pv] r :=
 Contract.ofL Tryz.func147 (by kernel_rfl) (L.go mixed tabOk (n:=81) (ns:=[1,1]) (tr:=[.reg [],.reg [.none,.none,(iI (l.breaks.length:Int)),(iI ((l.breaks.length:Int)-1))],.keep [2,3,5],.ord [2,3]]) (cj (o_len ARat.cells l.breaks) (cj (bs_sub h1) True.intro)) (by kernel_rfl) hL)
theorem l10(i_5:Int)(l:ALaw)(x:ARat)(k:Nat)(v:ARat)(cmp:Int){r:PV}(h1:i_5=(k:Int))(h2:l.breaks[k]? = some v)(h3:Contract prg 29 [v.pv,x.pv] (vI cmp))(h4:0<cmp)(h5:InI64 (i_5-1))(hL:Loop1 (i_5-1) l x r):Loop1 i_5 l x r :=
 L.go mixed tabOk (n:=108) (ns:=[3,1,1,1]) (tr:=[.auto,dr 8 0 [.none,.none,.none,(.row k (ARat.cells v)),.none,.none,(.pv (vI cmp))],.dec true,.reg [.none,(iI (i_5-1))],.keep [2,3,5]]) (cj (o_at ARat.cells h1 h2) (cj h3 (cj (dlt_t h4) (cj (bs_sub h5) True.intro)))) (by kernel_rfl) hL
theorem l11(i_5:Int)(l:ALaw)(x:ARat)(k:Nat)(v:ARat)(cmp:Int)(h1:i_5=(k:Int))(h2:l.breaks[k]? = some v)(h3:Contract prg 29 [v.pv,x.pv] (vI cmp))(h4:cmp≤0):Loop1 i_5 l x (vI i_5) :=
 L.done mixed tabOk (n:=114) (ns:=[3,1,1]) (tr:=[.auto,dr 8 0 [.none,.none,.none,(.row k (ARat.cells v)),.none,.none,(.pv (vI cmp))],.dec false,.reg []]) (cj (o_at ARat.cells h1 h2) (cj h3 (cj (dlt_f h4) True.intro))) (by kernel_rfl)
end law_piece
namespace law_one
theorem e0(of:ARat)(h1:Contract prg 73 [(vI 1)] of.pv):Contract prg 149 [] of.pv :=
 Contract.ofL Tryz.func149 (by kernel_rfl) (L.done mixed tabOk (n:=72) (ns:=[1]) (tr:=[.reg [],.reg [(.pv of.pv)]]) (cj h1 True.intro) (by kernel_rfl))
end law_one
namespace law_Derive
@[reducible] noncomputable def fn:Func:=Tryz.f185
noncomputable def atK1:List Itm:=focus [0,2,0,0,2,0,2,1,2,0,2,0,0,2,0,0] [.code (bodyOf fn)]
def inv1(l:ALaw)(t_19:Nat)(site_43:List ARat)(site_49:List (List ARat)):St:=⟨[(1,(.ptr 1 0)),(2,(.ptr 2 0)),(5,(.ptr 5 0)),(17,(.pv (lpv (lcell ARat.cells) l.pieces))),(18,(eI (l.pieces.length:Int))),(19,(eI (t_19:Int)))],[(1,(.lit [(.pv (polyPV l.breaks)),(.pv (lpv (lcell ARat.cells) l.pieces))])),(2,(.lit [(.pv (.list [])),(.pv (.list []))])),(5,(.lit [(.row 43 0 site_43.length 3),(.row 49 0 site_49.length 1)])),(43,(.pure ((site_43:List ARat).map ARat.cells).flatten)),(49,(.pure ((site_49:List (List ARat)).map (lcell ARat.cells)).flatten))]⟩
@[reducible] noncomputable def Loop1(l:ALaw)(t_19:Nat)(site_43:List ARat)(site_49:List (List ARat))(r:PV):Prop:=L prg fn atK1 (inv1 l t_19 site_43 site_49) r
theorem e0(l:ALaw){r:PV}(h1:Contract prg 114 [l.pv] .nilI)(hL:Loop1 l 0 [] [] r):Contract prg 185 [l.pv] r :=
 Contract.ofL Tryz.func185 (by kernel_rfl) (L.go mixed tabOk (n:=108) (ns:=[1,1]) (tr:=[.reg [],.reg [.none,(.pv .nilI)],.reg [],.auto,.reg [.nil],.adoptC 5 0 43 3,.adoptC 5 1 49 1,.reg [.none,.none,(iI (l.pieces.length:Int))],.keep [1,2,5,17,18,19],.ord [1,2,5,43,49]]) (cj h1 (cj (o_len (lcell ARat.cells) l.pieces) True.intro)) (by kernel_rfl) hL)
theorem l10(l:ALaw)(t_19:Nat)(site_43:List ARat)(site_49:List (List ARat))(v der:List ARat)(v1 add:ARat){r:PV}(h1:t_19<l.pieces.length)(h2:l.pieces[t_19]? = some v)(h3:Contract prg 231 [(polyPV v)] (.tup [(polyPV der),.nilI]))(h4:l.breaks[t_19]? = some v1)(h5:Contract prg 63 [v1.pv,(⟨false,[],[]⟩:ARat).pv] add.pv)(h6:((site_43++[add]):List ARat).length*56≤140737488355328)(h7:((site_49++[der]):List (List ARat)).length*24≤140737488355328)(h8:(t_19+1)<9223372036854775808)(hL:Loop1 l (t_19+1) (site_43++[add]) (site_49++[der]) r):Loop1 l t_19 site_43 site_49 r :=
 L.go mixed tabOk (n:=174) (ns:=[1,3,1,3,1,6,6,1]) (tr:=[.auto,.reg [],.dec true,.reg [.none,(.row t_19 ((lcell ARat.cells) v))],.reg [.none,(.pv (.tup [(polyPV der),.nilI]))],.reg [],.auto,dr 10 3 [.none,.none,.none,.none,.none,(.row t_19 (ARat.cells v1)),.none,.none,(.pv add.pv),.none,(.app ((site_43++[add]):List ARat).length (((site_43++[add]):List ARat).map ARat.cells).flatten)],.reg [.none,.none,.none,.none,(.app ((site_49++[der]):List (List ARat)).length (((site_49++[der]):List (List ARat)).map (lcell ARat.cells)).flatten)],.reg [(iI (((t_19+1):Nat):Int))],.keep [1,2,5,17,18,19],.drop [48,42],.ord [1,2,5,43,49]]) (cj (dltN_t h1) (cj (o_at (lcell ARat.cells) (Eq.refl (((t_19:Nat):Int):Int)) h2) (cj h3 (cj (o_at ARat.cells (Eq.refl (((t_19:Nat):Int):Int)) h4) (cj h5 (cj (o_appR sz_ARat (site_43:List ARat) ([add]:List ARat) 56 (Eq.refl (site_43:List ARat).length) (Eq.refl ([add]:List ARat).length) h6 rfl) (cj (o_appR (sz_l ARat.cells) (site_49:List (List ARat)) ([der]:List (List ARat)) 24 (Eq.refl (site_49:List (List ARat)).length) (Eq.refl ([der]:List (List ARat)).length) h7 rfl) (cj (bs_addN h8) True.intro)))))))) (by kernel_rfl) hL
theorem l12(l:ALaw)(t_19:Nat)(site_43:List ARat)(site_49:List (List ARat))(h1:l.pieces.length≤t_19):Loop1 l t_19 site_43 site_49 (.tup [(⟨site_43,site_49⟩:ALaw).pv,.nilI]) :=
 L.done mixed tabOk (n:=141) (ns:=[1,3,3]) (tr:=[.auto,.reg [],.dec false,.frzC 5 0 ((site_43:List ARat).map ARat.cells),.frzC 5 1 ((site_49:List (List ARat)).map (lcell ARat.cells)),.reg []]) (cj (dltN_f h1) (cj (o_frz sz_ARat (site_43:List ARat) (Eq.refl (site_43:List ARat).length)) (cj (o_frz (sz_l ARat.cells) (site_49:List (List ARat)) (Eq.refl (site_49:List (List ARat)).length)) True.intro))) (by kernel_rfl)
end law_Derive
namespace law_whole
theorem e0   : Contract prg 209 [] ((⟨false, [(1 : UInt32)]⟩ : AWhole).pv) :=
 Contract.ofL Tryz.func209 (by kernel_rfl) (L.done mixed tabOk (n:=72) (ns:=[3]) (tr:=[.reg [],.reg [(.slc 0 0 (([(1:UInt32)]:List UInt32).map wordPV))]]) (cj (o_bs sz_word ([(1:UInt32)]:List UInt32)) True.intro) (by kernel_rfl))
end law_whole
namespace slices_IndexFunc_Rat
@[reducible] noncomputable def fn:Func:=Tryz.f210
noncomputable def atK1:List Itm:=focus [0,2,0,0,2,0,0] [.code (bodyOf fn)]
def inv1(len:Nat)(f:ARat)(t_8:Nat)(s:List ARat):St:=⟨[(0,(.row 100000 0 len 3)),(1,(.clo 144 100001)),(7,(eI (len:Int))),(8,(eI (t_8:Int)))],[(100000,(.pure ((s:List ARat).map ARat.cells).flatten)),(100001,(.lit [(eB f.neg),(.pv (wordsPV f.num)),(.pv (wordsPV f.den))]))]⟩
@[reducible] noncomputable def Loop1(len:Nat)(f:ARat)(t_8:Nat)(s:List ARat)(sin:Sto)(r:EV)(sout:Sto):Prop:=LX prg fn atK1 (inv1 len f t_8 s) sin r sout
theorem e0 (s : List ARat) (len : Nat) (f : ARat) {r : EV} {sout : Sto}  (hL : Loop1 len f 0 s [(100000, (.pure ((s : List ARat).map ARat.cells).flatten)), (100001, (.lit [(eB f.neg), (.pv (wordsPV f.num)), (.pv (wordsPV f.den))]))] r sout) : ContractX prg 210 [(.row 100000 0 len 3), (.clo 144 100001)] [(100000, (.pure ((s : List ARat).map ARat.cells).flatten)), (100001, (.lit [(eB f.neg), (.pv (wordsPV f.num)), (.pv (wordsPV f.den))]))] r sout :=
 ContractX.ofL Tryz.func210 (by kernel_rfl) (LX.go mixed tabOk (n:=81) (ns:=[]) (tr:=[.reg [],.reg [],.keep [0,1,7,8]]) rfl True.intro (by kernel_rfl) hL)
theorem l10(len:Nat)(f:ARat)(t_8:Nat)(s:List ARat)(v:ARat)(shi:Bool){sin:Sto}(hs:sin.all (fun p=>Nat.ble fn.ntmps p.1)=true)(hi:sin.all (fun p=>gvB p.1||(Sto.get [(100000,(.pure ((s:List ARat).map ARat.cells).flatten)),(100001,(.lit [(eB f.neg),(.pv (wordsPV f.num)),(.pv (wordsPV f.den))]))] p.1).isSome)=true)(h1:t_8<len)(h2:s[t_8]? = some v)(h3:ContractX prg 144 [.pv v.pv,.ptr 100001 0] [(100001,(.lit [(eB f.neg),(.pv (wordsPV f.num)),(.pv (wordsPV f.den))]))] (.pv (vB shi)) [(100001,(.lit [(eB f.neg),(.pv (wordsPV f.num)),(.pv (wordsPV f.den))]))])(h4:shi=true):Loop1 len f t_8 s sin (.pv (vI (t_8:Int))) [(100000,(.pure ((s:List ARat).map ARat.cells).flatten)),(100001,(.lit [(eB f.neg),(.pv (wordsPV f.num)),(.pv (wordsPV f.den))]))] :=
 LX.done2 mixed tabOk (n:=126) (ns:=[1,2,2,1,1]) (tr:=[.auto,.reg [],.dec true,.reg [],.reg [.none,.none,.none,(.nat t_8),(.seg [(vB v.neg),(wordsPV v.num),(wordsPV v.den)]),(.callX [(100001,100001)] none (.pv (vB shi)) [(100001,(.lit [(eB f.neg),(.pv (wordsPV f.num)),(.pv (wordsPV f.den))]))])],.dec true,.reg [],.ord [100000,100001]]) hs hi (cj (dltN_t h1) (cj (cj (Eq.refl (((t_8:Nat):Int):Int)) h1) (cj (o_seg sz_ARat h2) (cj h3 (cj h4 True.intro))))) (by kernel_rfl)
theorem l11(len:Nat)(f:ARat)(t_8:Nat)(s:List ARat)(v:ARat)(shi:Bool){r:EV}{sout:Sto}{sin:Sto}(hs:sin.all (fun p=>Nat.ble fn.ntmps p.1)=true)(h1:t_8<len)(h2:s[t_8]? = some v)(h3:ContractX prg 144 [.pv v.pv,.ptr 100001 0] [(100001,(.lit [(eB f.neg),(.pv (wordsPV f.num)),(.pv (wordsPV f.den))]))] (.pv (vB shi)) [(100001,(.lit [(eB f.neg),(.pv (wordsPV f.num)),(.pv (wordsPV f.den))]))])(h4:shi=false)(h5:(t_8+1)<9223372036854775808)(hL:Loop1 len f (t_8+1) s sin r sout):Loop1 len f t_8 s sin r sout :=
 LX.go mixed tabOk (n:=129) (ns:=[1,2,2,1,1,1]) (tr:=[.auto,.reg [],.dec true,.reg [],.reg [.none,.none,.none,(.nat t_8),(.seg [(vB v.neg),(wordsPV v.num),(wordsPV v.den)]),(.callX [(100001,100001)] none (.pv (vB shi)) [(100001,(.lit [(eB f.neg),(.pv (wordsPV f.num)),(.pv (wordsPV f.den))]))])],.dec false,.reg [(iI (((t_8+1):Nat):Int))],.keep [0,1,7,8]]) hs (cj (dltN_t h1) (cj (cj (Eq.refl (((t_8:Nat):Int):Int)) h1) (cj (o_seg sz_ARat h2) (cj h3 (cj h4 (cj (bs_addN h5) True.intro)))))) (by kernel_rfl) hL
theorem l12(len:Nat)(f:ARat)(t_8:Nat)(s:List ARat){sin:Sto}(hs:sin.all (fun p=>Nat.ble fn.ntmps p.1)=true)(hi:sin.all (fun p=>gvB p.1||(Sto.get [(100000,(.pure ((s:List ARat).map ARat.cells).flatten)),(100001,(.lit [(eB f.neg),(.pv (wordsPV f.num)),(.pv (wordsPV f.den))]))] p.1).isSome)=true)(h1:len≤t_8):Loop1 len f t_8 s sin (.pv (vI (-1))) [(100000,(.pure ((s:List ARat).map ARat.cells).flatten)),(100001,(.lit [(eB f.neg),(.pv (wordsPV f.num)),(.pv (wordsPV f.den))]))] :=
 LX.done2 mixed tabOk (n:=114) (ns:=[1]) (tr:=[.auto,.reg [],.dec false,.reg [],.ord [100000,100001]]) hs hi (cj (dltN_f h1) True.intro) (by kernel_rfl)
end slices_IndexFunc_Rat
end Go.Proofs.YtbgkjomonebfcaaGreat.Sym.Path
namespace Go.Proofs.YtbgkjomonebfcaaGreat.Sym
open Go Path CInt
set_option linter.unusedVariables false
namespace CLw
theorem one:Contract prg 149 [] (mkR (1:Int)).pv:=law_one.e0 _ (CFr.Of 1 (by unfold InI64;omega))
theorem Check2(l:ALaw)(hl:l.pieces.length<4611686018427387904)(hf:∀p∈l.pieces,FitP 274877906944 p):∀(j t:Nat),l.pieces.length-t=j→law_Check.Loop2 l t (errPV (errOf (chkP (l.pieces.drop t)))):=by
 intro j
 induction j with
 |zero =>
  intro t hj
  rw[List.drop_of_length_le (by omega)]
  exact law_Check.l23 l t (by omega)
 |succ j ih =>
  intro t hj
  obtain⟨v,hv⟩:∃v,l.pieces[t]? = some v:=⟨_,List.getElem?_eq_getElem (by omega)⟩
  have hvf:=hf v (List.mem_of_getElem? hv)
  have hc:=CPo.Check v hvf
  rw[drop_cons hv,chkP]
  by_cases h0:chk v=0
  ·rw[decide_eq_false (by simpa using h0),cond_false]
   rw[h0] at hc
   have hd:=poly_Degree.e0 v (by have:=chk_len h0;unfold InI64;omega)
   by_cases h9:9<v.length
   ·rw[show Nat.blt 9 v.length=true from by simpa[Nat.blt_eq] using h9,cond_true]
    exact law_Check.l20 l t v _ (by omega) hv hc hd (by omega)
   ·rw[show Nat.blt 9 v.length=false from by cases hb:Nat.blt 9 v.length with
     |false=>rfl
     |true=>exact absurd (by simpa[Nat.blt_eq] using hb) h9,cond_false]
    exact law_Check.l21 l t v _ (by omega) hv hc hd (by omega) (by omega) (ih (t+1) (by omega))
  ·rw[decide_eq_true h0,cond_true]
   rw[errOf_ne h0] at hc ⊢
   exact law_Check.l22 l t v _ (by omega) hv hc
theorem Check(l:ALaw)(hf:FitW 1073741824 l):Contract prg 114 [l.pv] (errPV (errOf (chkLaw l))):=by
 unfold chkLaw
 by_cases h0:l.breaks.length=0
 ·rw[if_pos (Or.inl h0)];exact law_Check.e0 l h0
 by_cases h1:l.breaks.length=l.pieces.length
 ·rw[if_neg (by intro h;rcases h with h|h<;>omega)]
  by_cases h2:16<l.breaks.length
  ·rw[if_pos h2];exact law_Check.e2 l h0 h1 h2
  ·rw[if_neg h2]
   have hps:∀p∈l.pieces,FitP 274877906944 p:=fun p hp a ha=>⟨by have:=(hf.2 p hp a ha).1;omega,by have:=(hf.2 p hp a ha).2;omega⟩
   have loop:∀(j t:Nat) (p:Option Rat),l.breaks.length-t=j→t≤l.breaks.length→(t=0→p=none)→(∀k v,t=k+1→l.breaks[k]? = some v→p=some v.val)→law_Check.Loop1 l t (errPV (errOf (chkR p (l.breaks.drop t) l.pieces))):=by
    intro j
    induction j with
    |zero =>
     intro t p hj ht _ _
     rw[List.drop_of_length_le (by omega),chkR_nil]
     refine law_Check.l110 l t (by omega) ?_
     have:=Check2 l (by omega) hps _ 0 rfl
     rwa[List.drop_zero] at this
    |succ j ih =>
     intro t p hj ht hp0 hp
     obtain⟨v,hv⟩:∃v,l.breaks[t]? = some v:=⟨_,List.getElem?_eq_getElem (by omega)⟩
     have hvf:=hf.1 v (List.mem_of_getElem? hv)
     have hva:=CFr.Valid v ⟨by omega,by omega⟩
     have hsg:=CFr.Sign v ⟨by omega,by omega⟩
     have hone:=one
     have hcm:=CFr.Cmp v (mkR (1:Int)) ⟨by omega,by omega⟩ ⟨by decide,by decide⟩
     rw[mkR_val,show((1:Int):Rat)=1 from rfl] at hcm
     rw[drop_cons hv]
     cases hvv:v.valid with
     |false =>
      rw[chkR_stop (chkB_out (outB_inv hvv)) (by omega)]
      exact law_Check.l10 l t v _ (by omega) hv hva hvv
     |true =>
      by_cases hs:v.val<0
      ·rw[chkR_stop (chkB_out (outB_lt hs)) (by omega)]
       exact law_Check.l11 l t v _ _ (by omega) hv hva hvv hsg (cmpR_lt.2 hs)
      ·have hs':0≤cmpR v.val 0:=cmpR_ge.2 (by grind)
       by_cases hc:1≤v.val
       ·rw[chkR_stop (chkB_out (outB_ge hc)) (by omega)]
        exact law_Check.l12 l t v _ _ _ _ (by omega) hv hva hvv hsg hs' hone hcm (cmpR_ge.2 hc)
       ·have ho:=outB_no hvv hs hc
        have hc':cmpR v.val 1<0:=cmpR_lt.2 (by grind)
        by_cases ht0:t=0
        ·have:=hp0 ht0
         subst this
         by_cases hz:v.val=0
         ·rw[chkR_cons ho (by unfold badB;exact decide_eq_false (by simpa using hz))]
          refine law_Check.l16 l t v _ _ _ _ _ (by omega) hv hva hvv hsg hs' hone hcm hc' ht0 hsg (cmpR_eq.2 hz) (by omega) (by omega) (ih (t+1) _ (by omega) (by omega) (by omega) ?_)
          intro k u hk hu
          have:k=t:=by omega
          subst this
          rw[hv] at hu;injection hu with hu;rw[hu]
         ·rw[chkR_stop (chkB_bad ho (by unfold badB;exact decide_eq_true hz)) (by omega)]
          exact law_Check.l13 l t v _ _ _ _ _ (by omega) hv hva hvv hsg hs' hone hcm hc' ht0 hsg (fun e=>hz (cmpR_eq.1 e))
        ·obtain⟨k,hk⟩:∃k,t=k+1:=⟨t-1,by omega⟩
         obtain⟨u,hu⟩:∃u,l.breaks[k]? = some u:=⟨_,List.getElem?_eq_getElem (by omega)⟩
         have:=hp k u hk hu
         subst this
         have huf:=hf.1 u (List.mem_of_getElem? hu)
         have hcu:=CFr.Cmp v u ⟨by omega,by omega⟩ ⟨by omega,by omega⟩
         by_cases hz:v.val≤u.val
         ·rw[chkR_stop (chkB_bad ho (by unfold badB;exact decide_eq_true hz)) (by omega)]
          exact law_Check.l17 l t v _ _ _ _ k u _ (by omega) hv hva hvv hsg hs' hone hcm hc' ht0 (by omega) (by unfold InI64;omega) (by omega) hu hcu (cmpR_le.2 hz)
         ·rw[chkR_cons ho (by unfold badB;exact decide_eq_false hz)]
          refine law_Check.l18 l t v _ _ _ _ k u _ (by omega) hv hva hvv hsg hs' hone hcm hc' ht0 (by omega) (by unfold InI64;omega) (by omega) hu hcu (cmpR_gt.2 (by grind)) (by omega) (ih (t+1) _ (by omega) (by omega) (by omega) ?_)
          intro k' u' hk' hu'
          have:k'=t:=by omega
          subst this
          rw[hv] at hu';injection hu' with hu';rw[hu']
   refine law_Check.e3 l h0 h1 (by omega) ?_
   have:=loop _ 0 none rfl (by omega) (fun _=>rfl) (fun k v h=>by omega)
   rwa[List.drop_zero] at this
 ·rw[if_pos (Or.inr h1)];exact law_Check.e1 l h0 h1
theorem wrapped(x:ARat)(h:x.num.length≤1073741824∧x.den.length≤1073741824):Contract prg 142 [x.pv] (.tup [(mkR (frac x.val)).pv,.nilI]):=by
 obtain⟨f1,f2⟩:=h
 have hh:=ht_fit (k:=1073741824) f1 f2 (by omega)
 have hfl:=CFr.Floor x ⟨by omega,by omega⟩
 have hw:=wl_floor x.val
 have hfr:=CFr.From (Sym.whole x.val.floor) (⟨false,[(1:UInt32)]⟩:AWhole) (show wl _≤_ by omega) (by decide) (by decide)
 rw[whole_val,show Rat.divInt x.val.floor (⟨false,[(1:UInt32)]⟩:AWhole).val=(x.val.floor:Rat) from by rw[show (⟨false,[(1:UInt32)]⟩:AWhole).val=1 from rfl,Rat.divInt_eq_div];grind] at hfr
 have hi:=ht_int x.val.floor
 have hs:=CFr.Sub x (mkR (x.val.floor:Rat)) ⟨by omega,by omega⟩ (fit_mkR (by omega))
 rw[mkR_val] at hs
 exact law_wrapped.e0 x _ _ _ _ hfl law_whole.e0 hfr hs
theorem piece(l:ALaw)(x:ARat)(g:Good l)(hf:FitP 1073741824 l.breaks)(hx:x.num.length≤1073741824∧x.den.length≤1073741824)(h0:0≤x.val):Contract prg 147 [l.pv,x.pv] (vI (pieceL (vals l.breaks) x.val:Nat)):=by
 have hlen:(vals l.breaks).length=l.breaks.length:=by unfold vals;rw[List.length_map]
 have hle:=g.le
 have hn0:=g.n0
 have loop:∀(n:Nat),n<l.breaks.length→(∀b,(vals l.breaks)[n+1]? = some b→x.val<b)→law_piece.Loop1 (n:Int) l x (vI (pieceL (vals l.breaks) x.val:Nat)):=by
  intro n
  induction n with
  |zero =>
   intro hn hup
   obtain⟨v,hv⟩:∃v,l.breaks[0]? = some v:=⟨_,List.getElem?_eq_getElem (by omega)⟩
   have hvf:=hf v (List.mem_of_getElem? hv)
   have hc:=CFr.Cmp v x ⟨by omega,by omega⟩ ⟨by omega,by omega⟩
   have e:=g.first v hv
   have hp:pieceL (vals l.breaks) x.val=0:=by
    refine pieceF_eq _ _ 0 (fun j b hj=>by omega) (fun b hb=>hup b ?_) (by omega)
    rw[List.getElem?_drop] at hb;rw[Nat.add_comm];exact hb
   rw[hp]
   refine law_piece.l11 _ l x 0 v _ (by omega) hv hc (cmpR_le.2 (by grind))
  |succ n ih =>
   intro hn hup
   obtain⟨v,hv⟩:∃v,l.breaks[n+1]? = some v:=⟨_,List.getElem?_eq_getElem (by omega)⟩
   have hvf:=hf v (List.mem_of_getElem? hv)
   have hvv:(vals l.breaks)[n+1]? = some v.val:=by unfold vals;rw[List.getElem?_map,hv];rfl
   have hc:=CFr.Cmp v x ⟨by omega,by omega⟩ ⟨by omega,by omega⟩
   by_cases hle2:v.val≤x.val
   ·have hp:pieceL (vals l.breaks) x.val=n+1:=by
     refine pieceF_eq _ _ (n+1) (fun j b hj hb => ?_) (fun b hb=>hup b ?_) (by rw[List.length_drop];omega)
     ·rw[List.getElem?_drop] at hb
      by_cases hjn:j=n
      ·subst hjn
       rw[Nat.add_comm,hvv] at hb;injection hb with hb;rw[←hb];exact hle2
      ·have h1:1+j<(vals l.breaks).length:=(List.getElem?_eq_some_iff.1 hb).1
       have h2:n+1<(vals l.breaks).length:=by omega
       have:=List.pairwise_iff_getElem.1 g.asc (1+j) (n+1) h1 h2 (by omega)
       rw[(List.getElem?_eq_some_iff.1 hb).2,(List.getElem?_eq_some_iff.1 hvv).2] at this
       grind
     ·rw[List.getElem?_drop] at hb;rw[Nat.add_comm];exact hb
    rw[hp]
    refine law_piece.l11 _ l x (n+1) v _ (by omega) hv hc (cmpR_le.2 (by grind))
   ·refine law_piece.l10 _ l x (n+1) v _ (by omega) hv hc (cmpR_gt.2 (by grind)) (by unfold InI64;omega) ?_
    have:=ih (by omega) (fun b hb=>by rw[hvv] at hb;injection hb with hb;rw[←hb];grind)
    rwa[show ((n+1:Nat):Int)-1=(n:Int) from by omega]
 have:=loop (l.breaks.length-1) (by omega) (fun b hb=>by
  rw[List.getElem?_eq_none (by omega)] at hb;cases hb)
 refine law_piece.e0 l x (by unfold InI64;omega) ?_
 rwa[show ((l.breaks.length-1:Nat):Int)=(l.breaks.length:Int)-1 from by omega] at this
theorem frac_nonneg(x:Rat):0≤frac x:=by
 have:=Rat.floor_le (a:=x)
 unfold frac
 grind
theorem At(l:ALaw)(x:ARat)(hc:chkLaw l=0)(hf:FitW 1048576 l)(hv:x.valid=true)(hx:x.num.length≤1048576∧x.den.length≤1048576):Contract prg 107 [l.pv,x.pv] (.tup [(mkR (atW l x.val)).pv,.nilI]):=by
 have g:=good_of hc
 have hk:=Check l ⟨fun a ha=>⟨by have:=(hf.1 a ha).1;omega,by have:=(hf.1 a ha).2;omega⟩,fun p hp a ha=>⟨by have:=(hf.2 p hp a ha).1;omega,by have:=(hf.2 p hp a ha).2;omega⟩⟩
 rw[hc] at hk
 have hva:=CFr.Valid x ⟨by omega,by omega⟩
 have hw:=wrapped x ⟨by omega,by omega⟩
 have hxv:=hv
 obtain⟨f1,f2⟩:=hx
 have hh:=ht_fit (k:=1048576) f1 f2 (by omega)
 have hfr:=ht_frac hh
 have hxf:=fit_mkRk (k:=2097154) (q:=frac x.val) (by omega)
 have hn0:=g.n0
 have hlen:=g.len
 have hle:=g.le
 have hlen2:(vals l.breaks).length=l.breaks.length:=by unfold vals;rw[List.length_map]
 have hlt:=pieceL_lt (bs:=vals l.breaks) (by omega) (frac x.val)
 obtain⟨v,hv⟩:∃v,l.breaks[pieceL (vals l.breaks) (frac x.val)]? = some v:=⟨_,List.getElem?_eq_getElem (by omega)⟩
 obtain⟨p,hp⟩:∃p,l.pieces[pieceL (vals l.breaks) (frac x.val)]? = some p:=⟨_,List.getElem?_eq_getElem (by omega)⟩
 have hvf:=hf.1 v (List.mem_of_getElem? hv)
 have hpf:=hf.2 p (List.mem_of_getElem? hp)
 have hvh:=ht_fit hvf.1 hvf.2 (by omega)
 obtain⟨hpc,hpl⟩:=g.ps p (List.mem_of_getElem? hp)
 have hsub:=CFr.Sub (mkR (frac x.val)) v ⟨by omega,by omega⟩ ⟨by omega,by omega⟩
 rw[mkR_val] at hsub
 have hsf:=fit_mkRk (k:=1073741824) (q:=frac x.val-v.val) (by have:=ht_sub (frac x.val) v.val;omega)
 have e:atW l x.val=evalL (vals p) (frac x.val-v.val):=by unfold atW;rw[List.getD_eq_getElem?_getD,List.getD_eq_getElem?_getD,hv,hp];rfl
 rw[e]
 have hpi:=piece l (mkR (frac x.val)) g (fun a ha=>⟨by have:=(hf.1 a ha).1;omega,by have:=(hf.1 a ha).2;omega⟩) ⟨by omega,by omega⟩ (by rw[mkR_val];exact frac_nonneg _)
 rw[mkR_val] at hpi
 have hev:=CPo.Eval p (mkR (frac x.val-v.val)) hpc (fun a ha=>⟨by have:=(hpf a ha).1;omega,by have:=(hpf a ha).2;omega⟩) hsf
 rw[mkR_val] at hev
 exact law_At.e1 l x _ _ _ _ p _ v _ _ none hk hva hxv hw hpi rfl hp rfl hv hsub hev
end CLw
end Go.Proofs.YtbgkjomonebfcaaGreat.Sym
namespace Go.Proofs.YtbgkjomonebfcaaGreat.Sym
open Go Path CInt
set_option linter.unusedVariables false
namespace CRl
theorem Check2(l:ALaw)(hl:l.pieces.length<4611686018427387904)(hf:∀p∈l.pieces,FitP 274877906944 p):∀(j t:Nat),l.pieces.length-t=j→linkworkref52_Check.Loop2 t l (vI (chkP (l.pieces.drop t))):=by
 intro j
 induction j with
 |zero =>
  intro t hj
  rw[List.drop_of_length_le (by omega)]
  exact linkworkref52_Check.l23 t l (by omega)
 |succ j ih =>
  intro t hj
  obtain⟨v,hv⟩:∃v,l.pieces[t]? = some v:=⟨_,List.getElem?_eq_getElem (by omega)⟩
  have hvf:=hf v (List.mem_of_getElem? hv)
  have hc:=CRe.Check v hvf
  rw[drop_cons hv,chkP]
  by_cases h0:chk v=0
  ·rw[decide_eq_false (by simpa using h0),cond_false]
   by_cases h9:9<v.length
   ·rw[show Nat.blt 9 v.length=true from by simpa[Nat.blt_eq] using h9,cond_true]
    exact linkworkref52_Check.l21 t l v _ (by omega) hv hc h0 h9
   ·rw[show Nat.blt 9 v.length=false from by cases hb:Nat.blt 9 v.length with
     |false=>rfl
     |true=>exact absurd (by simpa[Nat.blt_eq] using hb) h9,cond_false]
    exact linkworkref52_Check.l22 t l v _ (by omega) hv hc h0 (by omega) (by omega) (ih (t+1) (by omega))
  ·rw[decide_eq_true h0,cond_true]
   exact linkworkref52_Check.l20 t l v _ (by omega) hv hc h0
theorem Check(l:ALaw)(hf:FitW 1073741824 l):Contract prg 68 [l.pv] (vI (chkLaw l)):=by
 unfold chkLaw
 by_cases h0:l.breaks.length=0
 ·rw[if_pos (Or.inl h0)];exact linkworkref52_Check.e0 l h0
 by_cases h1:l.breaks.length=l.pieces.length
 ·rw[if_neg (by intro h;rcases h with h|h<;>omega)]
  by_cases h2:16<l.breaks.length
  ·rw[if_pos h2];exact linkworkref52_Check.e2 l h0 h1 h2
  ·rw[if_neg h2]
   have hps:∀p∈l.pieces,FitP 274877906944 p:=fun p hp a ha=>⟨by have:=(hf.2 p hp a ha).1;omega,by have:=(hf.2 p hp a ha).2;omega⟩
   have loop:∀(j t:Nat) (p:Option Rat),l.breaks.length-t=j→t≤l.breaks.length→(t=0→p=none)→(∀k v,t=k+1→l.breaks[k]? = some v→p=some v.val)→linkworkref52_Check.Loop1 t l (vI (chkR p (l.breaks.drop t) l.pieces)):=by
    intro j
    induction j with
    |zero =>
     intro t p hj ht _ _
     rw[List.drop_of_length_le (by omega),chkR_nil]
     refine linkworkref52_Check.l110 t l (by omega) ?_
     have:=Check2 l (by omega) hps _ 0 rfl
     rwa[List.drop_zero] at this
    |succ j ih =>
     intro t p hj ht hp0 hp
     obtain⟨v,hv⟩:∃v,l.breaks[t]? = some v:=⟨_,List.getElem?_eq_getElem (by omega)⟩
     have hvf:=hf.1 v (List.mem_of_getElem? hv)
     have hva:=CRb.Valid v ⟨by omega,by omega⟩
     have hsg:=CRb.Sign v ⟨by omega,by omega⟩
     have hone:=(CRb.Of 1 (by unfold InI64;omega))
     have hcm:=CRb.Cmp v (mkR (1:Int)) ⟨by omega,by omega⟩ ⟨by decide,by decide⟩
     rw[mkR_val,show((1:Int):Rat)=1 from rfl] at hcm
     rw[drop_cons hv]
     cases hvv:v.valid with
     |false =>
      rw[chkR_stop (chkB_out (outB_inv hvv)) (by omega)]
      exact linkworkref52_Check.l10 t l v _ (by omega) hv hva hvv
     |true =>
      by_cases hs:v.val<0
      ·rw[chkR_stop (chkB_out (outB_lt hs)) (by omega)]
       exact linkworkref52_Check.l11 t l v _ _ (by omega) hv hva hvv hsg (cmpR_lt.2 hs)
      ·have hs':0≤cmpR v.val 0:=cmpR_ge.2 (by grind)
       by_cases hc:1≤v.val
       ·rw[chkR_stop (chkB_out (outB_ge hc)) (by omega)]
        exact linkworkref52_Check.l12 t l v _ _ _ _ (by omega) hv hva hvv hsg hs' hone hcm (cmpR_ge.2 hc)
       ·have ho:=outB_no hvv hs hc
        have hc':cmpR v.val 1<0:=cmpR_lt.2 (by grind)
        by_cases ht0:t=0
        ·have:=hp0 ht0
         subst this
         by_cases hz:v.val=0
         ·rw[chkR_cons ho (by unfold badB;exact decide_eq_false (by simpa using hz))]
          refine linkworkref52_Check.l16 t l v _ _ _ _ _ (by omega) hv hva hvv hsg hs' hone hcm hc' ht0 hsg (cmpR_eq.2 hz) (by omega) (by omega) (ih (t+1) _ (by omega) (by omega) (by omega) ?_)
          intro k u hk hu
          have:k=t:=by omega
          subst this
          rw[hv] at hu;injection hu with hu;rw[hu]
         ·rw[chkR_stop (chkB_bad ho (by unfold badB;exact decide_eq_true hz)) (by omega)]
          exact linkworkref52_Check.l13 t l v _ _ _ _ _ (by omega) hv hva hvv hsg hs' hone hcm hc' ht0 hsg (fun e=>hz (cmpR_eq.1 e))
        ·obtain⟨k,hk⟩:∃k,t=k+1:=⟨t-1,by omega⟩
         obtain⟨u,hu⟩:∃u,l.breaks[k]? = some u:=⟨_,List.getElem?_eq_getElem (by omega)⟩
         have:=hp k u hk hu
         subst this
         have huf:=hf.1 u (List.mem_of_getElem? hu)
         have hcu:=CRb.Cmp v u ⟨by omega,by omega⟩ ⟨by omega,by omega⟩
         by_cases hz:v.val≤u.val
         ·rw[chkR_stop (chkB_bad ho (by unfold badB;exact decide_eq_true hz)) (by omega)]
          exact linkworkref52_Check.l17 t l v _ _ _ _ k u _ (by omega) hv hva hvv hsg hs' hone hcm hc' ht0 (by omega) (by unfold InI64;omega) (by omega) hu hcu (cmpR_le.2 hz)
         ·rw[chkR_cons ho (by unfold badB;exact decide_eq_false hz)]
          refine linkworkref52_Check.l18 t l v _ _ _ _ k u _ (by omega) hv hva hvv hsg hs' hone hcm hc' ht0 (by omega) (by unfold InI64;omega) (by omega) hu hcu (cmpR_gt.2 (by grind)) (by omega) (ih (t+1) _ (by omega) (by omega) (by omega) ?_)
          intro k' u' hk' hu'
          have:k'=t:=by omega
          subst this
          rw[hv] at hu';injection hu' with hu';rw[hu']
   refine linkworkref52_Check.e3 l h0 h1 (by omega) ?_
   have:=loop _ 0 none rfl (by omega) (fun _=>rfl) (fun k v h=>by omega)
   rwa[List.drop_zero] at this
 ·rw[if_pos (Or.inr h1)];exact linkworkref52_Check.e1 l h0 h1
end CRl
end Go.Proofs.YtbgkjomonebfcaaGreat.Sym
namespace Go.Proofs.YtbgkjomonebfcaaGreat.Sym
open Go Path CInt
set_option linter.unusedVariables false
theorem drop_take_map{α β:Type}{l:List α}{t:Nat}{v:α}(f:α→β)(h:l[t]? = some v):(l.take (t+1)).map f=(l.take t).map f++[f v]:=by
 rw[List.take_add_one,h,List.map_append];rfl
namespace CLw
theorem Derive(l:ALaw)(hc:chkLaw l=0)(hf:FitW 1073741824 l):Contract prg 185 [l.pv] (.tup [(deriveW l).pv,.nilI]):=by
 have g:=good_of hc
 have hk:=Check l hf
 rw[hc] at hk
 have hle:=g.le
 have hlen:=g.len
 have loop:∀(j t:Nat) (sb:List ARat) (sp:List (List ARat)),l.pieces.length-t=j→t≤l.pieces.length→sb=(l.breaks.take t).map (fun a=>mkR a.val)→sp=(l.pieces.take t).map (fun p=>(deriveL (vals p)).map mkR)→law_Derive.Loop1 l t sb sp (.tup [(deriveW l).pv,.nilI]):=by
  intro j
  induction j with
  |zero =>
   intro t sb sp hj ht hb hp
   rw[List.take_of_length_le (by omega)] at hb hp
   have e:deriveW l=⟨sb,sp⟩:=by
    unfold deriveW vals
    rw[hb,hp,List.map_map];rfl
   rw[e]
   exact law_Derive.l12 l t sb sp (by omega)
  |succ j ih =>
   intro t sb sp hj ht hb hp
   obtain⟨v,hv⟩:∃v,l.pieces[t]? = some v:=⟨_,List.getElem?_eq_getElem (by omega)⟩
   obtain⟨b,hb'⟩:∃b,l.breaks[t]? = some b:=⟨_,List.getElem?_eq_getElem (by omega)⟩
   have hvf:=hf.2 v (List.mem_of_getElem? hv)
   have hbf:=hf.1 b (List.mem_of_getElem? hb')
   have hd:=CPo.Derive v (g.ps v (List.mem_of_getElem? hv)).1 (fun a ha=>⟨by have:=(hvf a ha).1;omega,by have:=(hvf a ha).2;omega⟩)
   have ha:=CPo.addZ b ⟨by omega,by omega⟩
   have h1:sb.length=t:=by rw[hb,List.length_map,List.length_take];omega
   have h2:sp.length=t:=by rw[hp,List.length_map,List.length_take];omega
   refine law_Derive.l10 l t sb sp v _ b _ (by omega) hv hd hb' ha (by simp;omega) (by simp;omega) (by omega) (ih (t+1) _ _ (by omega) (by omega) ?_ ?_)
   ·rw[drop_take_map _ hb',hb]
   ·rw[drop_take_map _ hv,hp]
 exact law_Derive.e0 l hk (loop _ 0 [] [] rfl (by omega) rfl rfl)
end CLw
end Go.Proofs.YtbgkjomonebfcaaGreat.Sym
namespace Go.Proofs.YtbgkjomonebfcaaGreat.Sym
open Go Path CInt
set_option linter.unusedVariables false
theorem chkP_of : ∀ {ps : List (List ARat)}, (∀ p ∈ ps, chk p = 0 ∧ p.length ≤ 9) → chkP ps = 0
  | [], _ => rfl
  | a :: r, h => by
    obtain ⟨h1, h2⟩ := h a (List.mem_cons_self ..)
    rw [chkP, h1, show decide ((0 : Int) ≠ 0) = false from rfl, cond_false]
    rw [show Nat.blt 9 a.length = false from by
      cases hb : Nat.blt 9 a.length with
      | false => rfl
      | true => have : 9 < a.length := by simpa [Nat.blt_eq] using hb
                omega, cond_false]
    exact chkP_of (fun p hp => h p (List.mem_cons_of_mem _ hp))
theorem chkB_zero{l:ALaw}(h:chkLaw l=0):chkB none l.breaks=0:=by
 unfold chkLaw at h
 split at h
 ·cases h
 ·split at h
  ·cases h
  ·unfold chkR at h
   refine Classical.byContradiction fun hb => ?_
   rw[decide_eq_true hb,cond_true] at h
   exact hb h
theorem chk_derive{l:ALaw}(h:chkLaw l=0):chkLaw (deriveW l)=0:=by
 have g:=good_of h
 have hb:=chkB_zero h
 have e:(deriveW l).breaks=l.breaks:=vals_of g.valid
 have hlen:=g.len
 have hn0:=g.n0
 have hle:=g.le
 have hp:(deriveW l).pieces.length=l.pieces.length:=by unfold deriveW;simp
 unfold chkLaw
 rw[if_neg (by rw[e,hp];omega),if_neg (by rw[e];omega)]
 unfold chkR
 rw[e,hb]
 refine chkP_of (fun p hp => ?_)
 unfold deriveW at hp
 obtain⟨q,hq,rfl⟩:=List.mem_map.1 hp
 have h9:=(g.ps q hq).2
 have hd:=len_deriveL (vals q)
 have hv:(vals q).length=q.length:=by unfold vals;rw[List.length_map]
 exact⟨chk_map (lastZ_deriveL _) (by omega),by rw[List.length_map];omega⟩
theorem fitW_derive{l:ALaw}{k:Nat}(g:Good l)(hk:1≤k)(h:FitW k l):FitW (k+2) (deriveW l):=by
 have e:(deriveW l).breaks=l.breaks:=vals_of g.valid
 constructor
 ·rw[e];exact fun a ha=>⟨by have:=(h.1 a ha).1;omega,by have:=(h.1 a ha).2;omega⟩
 ·intro p hp
  unfold deriveW at hp
  obtain⟨q,hq,rfl⟩:=List.mem_map.1 hp
  have h9:=(g.ps q hq).2
  exact fit_mapk (fl_deriveL (by unfold vals;rw[List.length_map];omega) (fl_vals (h.2 q hq) hk))
end Go.Proofs.YtbgkjomonebfcaaGreat.Sym
namespace Go.Proofs.YtbgkjomonebfcaaGreat.Sym
open Go Path CInt
set_option linter.unusedVariables false
def mkG(a b:Rat):ARange:=⟨mkR a,mkR b⟩
def ARange.ok(r:ARange):Bool:=r.lo.valid&&(r.hi.valid&&decide (r.lo.val≤r.hi.val))
def loG(r:ARange):Rat:=bif r.ok then r.lo.val else 0
def hiG(r:ARange):Rat:=bif r.ok then r.hi.val else 0
theorem ok_parts{r:ARange}(h:r.ok=true):r.lo.valid=true∧r.hi.valid=true∧r.lo.val≤r.hi.val:=by
 unfold ARange.ok at h
 simp only[Bool.and_eq_true,decide_eq_true_eq] at h
 exact h
theorem ok_mkG{a b:Rat}(h:a≤b):(mkG a b).ok=true:=by
 unfold ARange.ok mkG
 simp only[mkR_valid,mkR_val,decide_eq_true h,Bool.and_self]
theorem loG_mk{a b:Rat}(h:a≤b):loG (mkG a b)=a:=by unfold loG;rw[ok_mkG h,cond_true];exact mkR_val a
theorem hiG_mk{a b:Rat}(h:a≤b):hiG (mkG a b)=b:=by unfold hiG;rw[ok_mkG h,cond_true];exact mkR_val b
theorem mkG_of{r:ARange}(h:r.ok=true):mkG (loG r) (hiG r)=r:=by
 obtain⟨h1,h2,h3⟩:=ok_parts h
 unfold mkG loG hiG
 rw[h,cond_true,cond_true,mkR_of h1,mkR_of h2]
theorem mkG_not{r:ARange}(h:r.ok=false):mkG (loG r) (hiG r)=⟨⟨false,[],[]⟩,⟨false,[],[]⟩⟩:=by
 unfold mkG loG hiG
 rw[h];rfl
abbrev FitG(k:Nat)(r:ARange):Prop:=(r.lo.num.length≤k∧r.lo.den.length≤k)∧(r.hi.num.length≤k∧r.hi.den.length≤k)
theorem fit_mkG{a b:Rat}{k:Nat}(ha:ht a≤k)(hb:ht b≤k):FitG k (mkG a b):=⟨fit_mkRk ha,fit_mkRk hb⟩
theorem ht_loG{r:ARange}{k:Nat}(h:FitG k r)(hk:1≤k):ht (loG r)≤k:=by
 unfold loG
 cases r.ok with
 |true=>exact ht_fit h.1.1 h.1.2 hk
 |false=>exact Nat.le_trans (Nat.le_of_eq ht_zero) hk
theorem ht_hiG{r:ARange}{k:Nat}(h:FitG k r)(hk:1≤k):ht (hiG r)≤k:=by
 unfold hiG
 cases r.ok with
 |true=>exact ht_fit h.2.1 h.2.2 hk
 |false=>exact Nat.le_trans (Nat.le_of_eq ht_zero) hk
namespace CIv
theorem Valid(r:ARange)(h:FitG 68719476736 r):Contract prg 155 [r.pv] (vB r.ok):=by
 have h1:=CFr.Valid r.lo ⟨by omega,by omega⟩
 have h2:=CFr.Valid r.hi ⟨by omega,by omega⟩
 have h3:=CFr.Cmp r.lo r.hi ⟨by omega,by omega⟩ ⟨by omega,by omega⟩
 unfold ARange.ok
 cases hv:r.lo.valid with
 |false=>exact interval_Valid.e2 r _ h1 hv
 |true =>
  cases hw:r.hi.valid with
  |false=>exact interval_Valid.e1 r _ _ h1 hv h2 hw
  |true =>
   have:=interval_Valid.e0 r _ _ _ h1 hv h2 hw h3
   rwa[show decide (cmpR r.lo.val r.hi.val≤0)=decide (r.lo.val≤r.hi.val) from decide_eq_decide.2 cmpR_le] at this
theorem clean(r:ARange)(h:FitG 68719476736 r):Contract prg 137 [r.pv] (mkG (loG r) (hiG r)).pv:=by
 have hv:=Valid r h
 cases hk:r.ok with
 |false=>rw[mkG_not hk];exact interval_clean.e0 r _ hv hk
 |true =>
  obtain⟨h1,h2,h3⟩:=ok_parts hk
  have:=interval_clean.e1 r _ _ _ hv hk (CPo.addZ r.lo ⟨by omega,by omega⟩) (CPo.addZ r.hi ⟨by omega,by omega⟩)
  rw[mkR_of h1,mkR_of h2] at this
  rw[mkG_of hk];exact this
theorem Point(x:Rat)(hx:ht x≤68719476736):Contract prg 189 [(mkR x).pv] (mkG x x).pv:=interval_Point.e0 _ _ _ (QF.addZ x hx) (QF.addZ x hx)
theorem Hull(r s:ARange)(h:FitG 68719476736 r)(h':FitG 68719476736 s):Contract prg 188 [r.pv,s.pv] (mkG (minR (loG r) (loG s)) (maxR (hiG r) (hiG s))).pv :=
 interval_Hull.e0 r s _ _ _ _ (clean r h) (clean s h') (QF.Min _ _ (ht_loG h (by omega)) (ht_loG h' (by omega))) (QF.Max _ _ (ht_hiG h (by omega)) (ht_hiG h' (by omega)))
end CIv
end Go.Proofs.YtbgkjomonebfcaaGreat.Sym

namespace Go.Proofs.YtbgkjomonebfcaaGreat.Sym
open Go Path CInt
set_option linter.unusedVariables false
def brkW(l:ALaw)(i:Nat):Rat:=match l.breaks[i]? with
 |some b=>b.val
 |none=>0
def pcW(l:ALaw)(i:Nat):List Rat:=match l.pieces[i]? with
 |some p=>vals p
 |none=>[]
def lenW(l:ALaw)(i:Nat):Rat:=endW l i-brkW l i
theorem brkW_of{l:ALaw}{i:Nat}{b:ARat}(h:l.breaks[i]? = some b):brkW l i=b.val:=by unfold brkW;rw[h]
theorem pcW_of{l:ALaw}{i:Nat}{p:List ARat}(h:l.pieces[i]? = some p):pcW l i=vals p:=by unfold pcW;rw[h]
theorem ht_endW{l:ALaw}{k:Nat}(hf:FitW k l)(hk:1≤k)(i:Nat):ht (endW l i)≤k:=by
 unfold endW
 cases h:l.breaks[i+1]? with
 |some v=>have hv:=hf.1 v (List.mem_of_getElem? h);exact ht_fit hv.1 hv.2 hk
 |none=>exact Nat.le_trans (show ht ((1:Int):Rat)≤1 from by decide) hk
theorem ht_brkW{l:ALaw}{k:Nat}(hf:FitW k l)(hk:1≤k)(i:Nat):ht (brkW l i)≤k:=by
 unfold brkW
 cases h:l.breaks[i]? with
 |some v=>have hv:=hf.1 v (List.mem_of_getElem? h);exact ht_fit hv.1 hv.2 hk
 |none=>exact Nat.le_trans (Nat.le_of_eq ht_zero) hk
theorem ht_lenW{l:ALaw}{k:Nat}(hf:FitW k l)(hk:1≤k)(i:Nat):ht (lenW l i)≤2*k+1:=by
 have h1:=ht_endW hf hk i
 have h2:=ht_brkW hf hk i
 have h3:=ht_sub (endW l i) (brkW l i)
 unfold lenW;omega
theorem fl_pcW{l:ALaw}{k:Nat}(hf:FitW k l)(hk:1≤k)(i:Nat):Fl k (pcW l i):=by
 unfold pcW
 cases h:l.pieces[i]? with
 |some p=>exact fl_vals (hf.2 p (List.mem_of_getElem? h)) hk
 |none=>exact fun x hx=>by cases hx
theorem Good.at{l:ALaw}(g:Good l){t:Nat}(h:t<l.pieces.length):∃b p,l.breaks[t]? = some b∧l.pieces[t]? = some p∧b=mkR (brkW l t)∧p=(pcW l t).map mkR∧chk p=0∧p.length≤9:=by
 have hlen:=g.len
 obtain⟨b,hb⟩:∃b,l.breaks[t]? = some b:=⟨_,List.getElem?_eq_getElem (by omega)⟩
 obtain⟨p,hp⟩:∃p,l.pieces[t]? = some p:=⟨_,List.getElem?_eq_getElem h⟩
 obtain⟨h1,h2⟩:=g.ps p (List.mem_of_getElem? hp)
 refine⟨b,p,hb,hp,?_,?_,h1,h2⟩
 ·rw[brkW_of hb,mkR_of (List.all_eq_true.1 g.valid b (List.mem_of_getElem? hb))]
 ·rw[pcW_of hp,vals_of (chk_valid h1)]
theorem pcW_len{l:ALaw}(g:Good l)(t:Nat):(pcW l t).length≤9:=by
 unfold pcW
 cases h:l.pieces[t]? with
 |some p=>have:=(g.ps p (List.mem_of_getElem? h)).2;unfold vals;rw[List.length_map];exact this
 |none=>simp
theorem asc_get{q:List Rat}(h:q.Pairwise (·<·)){i j:Nat}{x y:Rat}(hi:q[i]? = some x)(hj:q[j]? = some y)(hij:i<j):x<y:=by
 obtain⟨a1,a2⟩:=List.getElem?_eq_some_iff.1 hi
 obtain⟨b1,b2⟩:=List.getElem?_eq_some_iff.1 hj
 have:=List.pairwise_iff_getElem.1 h i j a1 b1 hij
 rwa[a2,b2] at this
theorem endW_gt{l:ALaw}(g:Good l){t:Nat}(h:t<l.breaks.length):brkW l t<endW l t:=by
 obtain⟨b,hb⟩:∃b,l.breaks[t]? = some b:=⟨_,List.getElem?_eq_getElem h⟩
 rw[brkW_of hb]
 unfold endW
 cases h2:l.breaks[t+1]? with
 |none=>have:=(g.unit b (List.mem_of_getElem? hb)).2;show b.val<((1:Int):Rat);exact this
 |some c =>
  have hv1:(vals l.breaks)[t]? = some b.val:=by unfold vals;rw[List.getElem?_map,hb];rfl
  have hv2:(vals l.breaks)[t+1]? = some c.val:=by unfold vals;rw[List.getElem?_map,h2];rfl
  exact asc_get g.asc hv1 hv2 (Nat.lt_succ_self t)
theorem lenW_pos{l:ALaw}(g:Good l){t:Nat}(h:t<l.breaks.length):0<lenW l t:=by
 have:=endW_gt g h
 unfold lenW;grind
end Go.Proofs.YtbgkjomonebfcaaGreat.Sym

namespace Go.Proofs.YtbgkjomonebfcaaGreat.Sym
open Go Path CInt
set_option linter.unusedVariables false
theorem frac_lt(x:Rat):frac x<1:=by
 have:=Rat.lt_floor_add_one x
 have e:((x.floor+1:Int):Rat)=(x.floor:Rat)+1:=by simp
 unfold frac
 grind
theorem frac_ge(x:Rat):0≤frac x:=by
 have:=Rat.floor_le (a:=x)
 unfold frac
 grind
theorem floor_eq{x:Rat}{n:Int}(h1:(n:Rat)≤x)(h2:x<(n:Rat)+1):x.floor=n:=by
 have a:=Rat.le_floor_iff.2 h1
 have b:x.floor<n+1:=by
  have:=Rat.floor_lt_iff (a:=x) (x:=n+1)
  rw[this]
  have:((n+1:Int):Rat)=(n:Rat)+1:=by simp
  rw[this];exact h2
 omega
theorem frac_add(x:Rat)(n:Int):frac (x+n)=frac x:=by
 unfold frac
 rw[Rat.floor_add_intCast]
 have:((x.floor+n:Int):Rat)=(x.floor:Rat)+n:=by simp
 grind
theorem frac_id {x : Rat} (h1 : 0 ≤ x) (h2 : x < 1) : frac x = x := by
  have e : x.floor = 0 := floor_eq (by exact h1) (by have : (((0 : Int) : Rat)) = 0 := rfl
                                                     grind)
  unfold frac
  rw [e]
  have : (((0 : Int) : Rat)) = 0 := rfl
  grind
theorem piece_spec{l:ALaw}(g:Good l){y:Rat}(h0:0≤y)(h1:y<1):pieceL (vals l.breaks) y<l.breaks.length∧brkW l (pieceL (vals l.breaks) y)≤y∧y<endW l (pieceL (vals l.breaks) y):=by
 have hl:(vals l.breaks).length=l.breaks.length:=List.length_map ..
 have hn0:=g.n0
 have hlt:=pieceL_lt (bs:=vals l.breaks) (by omega) y
 have key:∀(r:List Rat) (i:Nat),pieceF r y=i→(∀j b,j<i→r[j]? = some b→b≤y)∧(∀b,r[i]? = some b→y<b):=by
  intro r
  induction r with
  |nil=>intro i hi;exact⟨fun j b _ h=>by simp at h,fun b h=>by simp at h⟩
  |cons a r ih =>
   intro i hi
   rw[pieceF] at hi
   by_cases ha:a≤y
   ·rw[decide_eq_true ha,cond_true] at hi
    subst hi
    obtain⟨k1,k2⟩:=ih _ rfl
    refine⟨fun j b hj h => ?_,fun b h=>k2 b (by simpa using h)⟩
    cases j with
    |zero=>simp at h;rw[←h];exact ha
    |succ j=>exact k1 j b (by omega) (by simpa using h)
   ·rw[decide_eq_false ha,cond_false] at hi
    subst hi
    exact⟨fun j b hj=>by omega,fun b h=>by simp at h;rw[←h];grind⟩
 obtain⟨k1,k2⟩:=key ((vals l.breaks).drop 1) _ rfl
 have k1:∀j b,j<pieceL (vals l.breaks) y→((vals l.breaks).drop 1)[j]? = some b→b≤y:=k1
 have k2:∀b,((vals l.breaks).drop 1)[pieceL (vals l.breaks) y]? = some b→y<b:=k2
 generalize pieceL (vals l.breaks) y=i at hlt k1 k2 ⊢
 refine⟨by omega,?_,?_⟩
 ·cases i with
  |zero =>
   obtain⟨b,hb⟩:∃b,l.breaks[0]? = some b:=⟨_,List.getElem?_eq_getElem (by omega)⟩
   rw[brkW_of hb,g.first b hb];exact h0
  |succ i =>
   obtain⟨b,hb⟩:∃b,l.breaks[i+1]? = some b:=⟨_,List.getElem?_eq_getElem (by omega)⟩
   rw[brkW_of hb]
   refine k1 i b.val (by omega) ?_
   rw[List.getElem?_drop,Nat.add_comm]
   unfold vals;rw[List.getElem?_map,hb];rfl
 ·unfold endW
  cases hb:l.breaks[i+1]? with
  |none=>show y<((1:Int):Rat);exact h1
  |some b =>
   refine k2 b.val ?_
   rw[List.getElem?_drop,Nat.add_comm]
   unfold vals;rw[List.getElem?_map,hb];rfl
theorem endW_next{l:ALaw}{t:Nat}(h:t+1<l.breaks.length):endW l t=brkW l (t+1):=by
 obtain⟨b,hb⟩:∃b,l.breaks[t+1]? = some b:=⟨_,List.getElem?_eq_getElem h⟩
 unfold endW
 rw[hb,brkW_of hb]
theorem endW_le1{l:ALaw}(g:Good l)(t:Nat):endW l t≤1:=by
 unfold endW
 cases hb:l.breaks[t+1]? with
 |none=>exact Rat.le_refl
 |some b=>exact Rat.le_of_lt (g.unit b (List.mem_of_getElem? hb)).2
theorem brkW_ge0{l:ALaw}(g:Good l)(t:Nat):0≤brkW l t:=by
 unfold brkW
 cases hb:l.breaks[t]? with
 |none=>exact Rat.le_refl
 |some b=>exact(g.unit b (List.mem_of_getElem? hb)).1
theorem brk_mono{l:ALaw}(g:Good l){i j:Nat}(hj:j<l.breaks.length)(hij:i<j):brkW l i<brkW l j:=by
 obtain⟨b,hb⟩:∃b,l.breaks[i]? = some b:=⟨_,List.getElem?_eq_getElem (by omega)⟩
 obtain⟨c,hc⟩:∃c,l.breaks[j]? = some c:=⟨_,List.getElem?_eq_getElem hj⟩
 rw[brkW_of hb,brkW_of hc]
 exact asc_get g.asc (by unfold vals;rw[List.getElem?_map,hb];rfl) (by unfold vals;rw[List.getElem?_map,hc];rfl) hij
theorem piece_uniq{l:ALaw}(g:Good l){y:Rat}{t:Nat}(ht:t<l.breaks.length)(h1:brkW l t≤y)(h2:y<endW l t):pieceL (vals l.breaks) y=t:=by
 have h0:=brkW_ge0 g t
 have h3:=endW_le1 g t
 obtain⟨s1,s2,s3⟩:=piece_spec g (y:=y) (by grind) (by grind)
 generalize pieceL (vals l.breaks) y=i at s1 s2 s3 ⊢
 rcases Nat.lt_trichotomy i t with h|h|h
 ·have:endW l i=brkW l (i+1):=endW_next (by omega)
  by_cases e:i+1=t
  ·rw[e] at this;grind
  ·have:=brk_mono g (i:=i+1) ht (by omega);grind
 ·exact h
 ·have:endW l t=brkW l (t+1):=endW_next (by omega)
  by_cases e:t+1=i
  ·rw[e] at this;grind
  ·have:=brk_mono g (i:=t+1) s1 (by omega);grind
theorem atW_eq{l:ALaw}(x:Rat):atW l x=evalL (pcW l (pieceL (vals l.breaks) (frac x))) (frac x-brkW l (pieceL (vals l.breaks) (frac x))):=by
 unfold atW pcW brkW
 rw[List.getD_eq_getElem?_getD,List.getD_eq_getElem?_getD]
 cases l.pieces[pieceL (vals l.breaks) (frac x)]? <;> cases l.breaks[pieceL (vals l.breaks) (frac x)]? <;> rfl
theorem deriveW_pc(l:ALaw)(i:Nat):pcW (deriveW l) i=deriveL (pcW l i):=by
 unfold pcW deriveW
 show(match (l.pieces.map (fun p=>(deriveL (vals p)).map mkR))[i]? with|some p=>vals p|none=>[])=_
 rw[List.getElem?_map]
 cases l.pieces[i]? with
 |none=>rfl
 |some p=>exact vals_mkR _
theorem deriveW_br(l:ALaw):vals (deriveW l).breaks=vals l.breaks:=vals_mkR _
end Go.Proofs.YtbgkjomonebfcaaGreat.Sym
namespace Go.Proofs.YtbgkjomonebfcaaGreat.Sym.Path
open Go
set_option maxRecDepth 20000
set_option linter.unusedVariables false
namespace cam_Radius
theorem e0(c:ACam)(x atV add:ARat)(h1:Contract prg 106 [c.pv,x.pv] .nilI)(h2:Contract prg 107 [c.lift.pv,x.pv] (.tup [atV.pv,.nilI]))(h3:Contract prg 63 [c.base.pv,atV.pv] add.pv):Contract prg 43 [c.pv,x.pv] (.tup [add.pv,.nilI]) :=
 Contract.ofL Tryz.func43 (by kernel_rfl) (L.done mixed tabOk (n:=114) (ns:=[1,1,1]) (tr:=[.reg [],.reg [.none,.none,(.pv .nilI)],.reg [],.auto,.reg [.none,.none,.none,(.pv (.tup [atV.pv,.nilI]))],.reg [],.auto,.reg [.none,.none,.none,(.pv add.pv)]]) (cj h1 (cj h2 (cj h3 True.intro))) (by kernel_rfl))
end cam_Radius
namespace cam_Pressure
theorem e1(c:ACam)(x rad:ARat)(sig:Int)(der of mul hig mul1 div low mul2 div2:ARat)(enc:ARange)(h1:Contract prg 43 [c.pv,x.pv] (.tup [rad.pv,.nilI]))(h2:Contract prg 39 [rad.pv] (vI sig))(h3:0<sig)(h4:Contract prg 108 [c.lift.pv,(vI 1),x.pv] (.tup [der.pv,.nilI]))(h5:Contract prg 73 [(vI 2)] of.pv)(h6:Contract prg 85 [of.pv,rad.pv] mul.pv)(h7:Contract prg 110 [] hig.pv)(h8:Contract prg 85 [mul.pv,hig.pv] mul1.pv)(h9:Contract prg 109 [der.pv,mul1.pv] (.tup [div.pv,.nilI]))(h10:Contract prg 111 [] low.pv)(h11:Contract prg 85 [mul.pv,low.pv] mul2.pv)(h12:Contract prg 109 [der.pv,mul2.pv] (.tup [div2.pv,.nilI]))(h13:Contract prg 112 [div.pv,div2.pv] enc.pv):Contract prg 44 [c.pv,x.pv] (.tup [enc.pv,.nilI]) :=
 Contract.ofL Tryz.func44 (by kernel_rfl) (L.done mixed tabOk (n:=177) (ns:=[1,1,1,1,1,1,1,1,1,1,1,1,1]) (tr:=[.reg [],.reg [.none,.none,(.pv (.tup [rad.pv,.nilI]))],.reg [],.auto,.reg [.none,(.pv (vI sig))],.dec false,.reg [.none,.none,.none,(.pv (.tup [der.pv,.nilI]))],.reg [],.auto,dr 4 1 [(.pv of.pv),.none,(.pv mul.pv)],dr 10 1 [.none,.none,(.pv hig.pv),(.pv mul1.pv),(.pv (.tup [div.pv,.nilI]))],.reg [],.auto,dr 10 1 [.none,.none,(.pv low.pv),(.pv mul2.pv),(.pv (.tup [div2.pv,.nilI]))],.reg [],.auto,.reg [.none,.none,(.pv enc.pv)]]) (cj h1 (cj h2 (cj (dle_f h3) (cj h4 (cj h5 (cj h6 (cj h7 (cj h8 (cj h9 (cj h10 (cj h11 (cj h12 (cj h13 True.intro))))))))))))) (by kernel_rfl))
end cam_Pressure
namespace linkworkref53_Check
theorem e0(c:ACam)(che:Int)(h1:Contract prg 68 [c.lift.pv] (vI che))(h2:che≠0):Contract prg 46 [c.pv] (vI che) :=
 Contract.ofL Tryz.func46 (by kernel_rfl) (L.done mixed tabOk (n:=90) (ns:=[1,1]) (tr:=[.reg [],.reg [.none,.none,(.pv (vI che))],.reg [],.dec true,.reg []]) (cj h1 (cj (dne_t h2) True.intro)) (by kernel_rfl))
theorem e1(c:ACam)(che:Int)(val:Bool)(h1:Contract prg 68 [c.lift.pv] (vI che))(h2:che=0)(h3:Contract prg 48 [c.base.pv] (vB val))(h4:val=false):Contract prg 46 [c.pv] (vI 3) :=
 Contract.ofL Tryz.func46 (by kernel_rfl) (L.done mixed tabOk (n:=105) (ns:=[1,1,1,1,1,1,1,1]) (tr:=[.reg [],.reg [.none,.none,(.pv (vI che))],.reg [],.dec false,.reg [.none,.none,(.pv (vB val)),.none,.none,.skip,.skip,.skip,.skip,(.dec true)],.auto,.reg []]) (cj h1 (cj (dne_f h2) (cj h3 (cj (bnot_t h4) (cj (bnot_t h4) (cj (bnot_t h4) (cj (bnot_t h4) (cj (bnot_t h4) True.intro)))))))) (by kernel_rfl))
theorem e2(c:ACam)(che:Int)(val:Bool)(sig:Int)(h1:Contract prg 68 [c.lift.pv] (vI che))(h2:che=0)(h3:Contract prg 48 [c.base.pv] (vB val))(h4:val=true)(h5:Contract prg 59 [c.base.pv] (vI sig))(h6:sig≤0):Contract prg 46 [c.pv] (vI 3) :=
 Contract.ofL Tryz.func46 (by kernel_rfl) (L.done mixed tabOk (n:=105) (ns:=[1,1,1,1,1,1,1,1,1,1]) (tr:=[.reg [],.reg [.none,.none,(.pv (vI che))],.reg [],.dec false,.reg [.none,.none,(.pv (vB val)),.none,.none,.none,.none,(.pv (vI sig)),.none,(.dec false)],.dec true,.reg []]) (cj h1 (cj (dne_f h2) (cj h3 (cj (bnot_f h4) (cj (bnot_f h4) (cj (bnot_f h4) (cj h5 (cj (bnot_f h4) (cj (bnot_f h4) (cj (dle_t h6) True.intro)))))))))) (by kernel_rfl))
theorem e3(c:ACam)(che:Int)(val:Bool)(sig:Int)(h1:Contract prg 68 [c.lift.pv] (vI che))(h2:che=0)(h3:Contract prg 48 [c.base.pv] (vB val))(h4:val=true)(h5:Contract prg 59 [c.base.pv] (vI sig))(h6:0<sig):Contract prg 46 [c.pv] (vI 0) :=
 Contract.ofL Tryz.func46 (by kernel_rfl) (L.done mixed tabOk (n:=108) (ns:=[1,1,1,1,1,1,1,1,1,1]) (tr:=[.reg [],.reg [.none,.none,(.pv (vI che))],.reg [],.dec false,.reg [.none,.none,(.pv (vB val)),.none,.none,.none,.none,(.pv (vI sig)),.none,(.dec false)],.dec false,.reg []]) (cj h1 (cj (dne_f h2) (cj h3 (cj (bnot_f h4) (cj (bnot_f h4) (cj (bnot_f h4) (cj h5 (cj (bnot_f h4) (cj (bnot_f h4) (cj (dle_f h6) True.intro)))))))))) (by kernel_rfl))
end linkworkref53_Check
namespace cam_Check
theorem e0(c:ACam)(val:Bool)(h1:Contract prg 114 [c.lift.pv] .nilI)(h2:Contract prg 97 [c.base.pv] (vB val))(h3:val=false):Contract prg 47 [c.pv] (.iface 94 (vI 3)) :=
 Contract.ofL Tryz.func47 (by kernel_rfl) (L.done mixed tabOk (n:=105) (ns:=[1,1,1,1,1,1,1]) (tr:=[.reg [],.reg [.none,.none,(.pv .nilI)],.reg [],.auto,.reg [.none,.none,(.pv (vB val)),.none,.none,.skip,.skip,.skip,.skip,(.dec true)],.auto,.reg []]) (cj h1 (cj h2 (cj (bnot_t h3) (cj (bnot_t h3) (cj (bnot_t h3) (cj (bnot_t h3) (cj (bnot_t h3) True.intro))))))) (by kernel_rfl))
theorem e1(c:ACam)(val:Bool)(sig:Int)(h1:Contract prg 114 [c.lift.pv] .nilI)(h2:Contract prg 97 [c.base.pv] (vB val))(h3:val=true)(h4:Contract prg 39 [c.base.pv] (vI sig))(h5:sig≤0):Contract prg 47 [c.pv] (.iface 94 (vI 3)) :=
 Contract.ofL Tryz.func47 (by kernel_rfl) (L.done mixed tabOk (n:=105) (ns:=[1,1,1,1,1,1,1,1,1]) (tr:=[.reg [],.reg [.none,.none,(.pv .nilI)],.reg [],.auto,.reg [.none,.none,(.pv (vB val)),.none,.none,.none,.none,(.pv (vI sig)),.none,(.dec false)],.dec true,.reg []]) (cj h1 (cj h2 (cj (bnot_f h3) (cj (bnot_f h3) (cj (bnot_f h3) (cj h4 (cj (bnot_f h3) (cj (bnot_f h3) (cj (dle_t h5) True.intro))))))))) (by kernel_rfl))
theorem e2(c:ACam)(val:Bool)(sig:Int)(h1:Contract prg 114 [c.lift.pv] .nilI)(h2:Contract prg 97 [c.base.pv] (vB val))(h3:val=true)(h4:Contract prg 39 [c.base.pv] (vI sig))(h5:0<sig):Contract prg 47 [c.pv] .nilI :=
 Contract.ofL Tryz.func47 (by kernel_rfl) (L.done mixed tabOk (n:=108) (ns:=[1,1,1,1,1,1,1,1,1]) (tr:=[.reg [],.reg [.none,.none,(.pv .nilI)],.reg [],.auto,.reg [.none,.none,(.pv (vB val)),.none,.none,.none,.none,(.pv (vI sig)),.none,(.dec false)],.dec false,.reg []]) (cj h1 (cj h2 (cj (bnot_f h3) (cj (bnot_f h3) (cj (bnot_f h3) (cj h4 (cj (bnot_f h3) (cj (bnot_f h3) (cj (dle_f h5) True.intro))))))))) (by kernel_rfl))
theorem e3(c:ACam)(che:Int)(h1:Contract prg 114 [c.lift.pv] (.iface 94 (vI che))):Contract prg 47 [c.pv] (.iface 94 (vI che)) :=
 Contract.ofL Tryz.func47 (by kernel_rfl) (L.done mixed tabOk (n:=90) (ns:=[1]) (tr:=[.reg [],.reg [.none,.none,(.pv (.iface 94 (vI che)))],.reg [],.auto,.reg []]) (cj h1 True.intro) (by kernel_rfl))
end cam_Check
namespace cam_Positive
theorem e0(c:ACam)(of:ARat)(all:Bool)(all1:Option Int)(h1:Contract prg 47 [c.pv] .nilI)(h2:Contract prg 73 [(vI 1)] of.pv)(h3:Contract prg 126 [c.pv,of.pv,(⟨false,[],[]⟩:ARat).pv,(vI 0)] (.tup [(vB all),(errPV all1)])):Contract prg 54 [c.pv] (.tup [(vB all),(errPV all1)]) :=
 Contract.ofL Tryz.func54 (by kernel_rfl) (L.done mixed tabOk (n:=93) (ns:=[1,1,1]) (tr:=[.reg [],.reg [.none,(.pv .nilI)],.reg [],.auto,dr 6 2 [.none,(.pv of.pv),.none,(.pv (.tup [(vB all),(errPV all1)]))]]) (cj h1 (cj h2 (cj h3 True.intro))) (by kernel_rfl))
end cam_Positive
namespace cam_Within
@[reducible] noncomputable def fn:Func:=Tryz.f55
noncomputable def atK1:List Itm:=focus [0,2,0,0,2,0,2,1,2,0,0,2,1,2,0,2,0,0,2,0,0] [.code (bodyOf fn)]
def inv1(t_33:Nat)(c:ACam)(mul1:ARat):St:=⟨[(2,(.ptr 2 0)),(7,(.ptr 7 0)),(31,(.row 31 0 2 1)),(32,(eI 2)),(33,(eI (t_33:Int)))],[(2,(.lit [(eB c.base.neg),(.pv (wordsPV c.base.num)),(.pv (wordsPV c.base.den)),(.pv (polyPV c.lift.breaks)),(.pv (lpv (lcell ARat.cells) c.lift.pieces))])),(7,(.lit [(eB mul1.neg),(.pv (wordsPV mul1.num)),(.pv (wordsPV mul1.den))])),(31,(.pure (([(-1),1]:List Int).map intCell).flatten))]⟩
@[reducible] noncomputable def Loop1(t_33:Nat)(c:ACam)(mul1:ARat)(r:PV):Prop:=L prg fn atK1 (inv1 t_33 c mul1) r
theorem e2(c:ACam)(limit:ARat)(val:Bool)(sig:Int)(of low mul mul1:ARat){r:PV}(h1:Contract prg 47 [c.pv] .nilI)(h2:Contract prg 97 [limit.pv] (vB val))(h3:val=true)(h4:Contract prg 39 [limit.pv] (vI sig))(h5:0<sig)(h6:Contract prg 73 [(vI 2)] of.pv)(h7:Contract prg 111 [] low.pv)(h8:Contract prg 85 [low.pv,limit.pv] mul.pv)(h9:Contract prg 85 [of.pv,mul.pv] mul1.pv)(hL:Loop1 0 c mul1 r):Contract prg 55 [c.pv,limit.pv] r :=
 Contract.ofL Tryz.func55 (by kernel_rfl) (L.go mixed tabOk (n:=123) (ns:=[1,1,1,1,1,1,1,1,1,1,1,1]) (tr:=[.reg [],.reg [.none,(.pv .nilI)],.reg [],.auto,.reg [.none,(.pv (vB val)),.none,.none,.none,(.pv (vI sig)),.none,(.dec false)],.dec false,dr 6 1 [(.pv of.pv),(.pv low.pv),.none,(.pv mul.pv),(.pv mul1.pv)],.reg [],.keep [2,7,31,32,33],.drop [3],.ord [2,7,31]]) (cj h1 (cj h2 (cj (bnot_f h3) (cj (bnot_f h3) (cj h4 (cj (bnot_f h3) (cj (bnot_f h3) (cj (dle_f h5) (cj h6 (cj h7 (cj h8 (cj h9 True.intro)))))))))))) (by kernel_rfl) hL)
theorem l10(t_33:Nat)(c:ACam)(mul1:ARat)(v:Int)(of:ARat)(all:Bool)(h1:t_33<2)(h2:[(-1),1][t_33]? = some v)(h3:Contract prg 73 [(vI v)] of.pv)(h4:Contract prg 126 [c.pv,mul1.pv,of.pv,(vI 1)] (.tup [(vB all),.nilI]))(h5:all=false):Loop1 t_33 c mul1 (.tup [(vB false),.nilI]) :=
 L.done mixed tabOk (n:=174) (ns:=[1,2,1,1,1,1,1,1]) (tr:=[.auto,.reg [],.dec true,.reg [(.nat t_33),(.ev (.pv (vI v)))],dr 9 1 [.none,.none,.none,(.pv of.pv),(.pv (.tup [(vB all),.nilI]))],.reg [],.dec true,.reg []]) (cj (dltN_t h1) (cj (cj (Eq.refl (((t_33:Nat):Int):Int)) h1) (cj (o_get (enc:=intCell) (f:=fun a=>(vI a)) (fun _=>rfl) h2) (cj h3 (cj h4 (cj (Eq.refl false) (cj (Eq.refl false) (cj (bnot_t h5) True.intro)))))))) (by kernel_rfl)
theorem l11(t_33:Nat)(c:ACam)(mul1:ARat)(v:Int)(of:ARat)(all:Bool){r:PV}(h1:t_33<2)(h2:[(-1),1][t_33]? = some v)(h3:Contract prg 73 [(vI v)] of.pv)(h4:Contract prg 126 [c.pv,mul1.pv,of.pv,(vI 1)] (.tup [(vB all),.nilI]))(h5:all=true)(h6:(t_33+1)<9223372036854775808)(hL:Loop1 (t_33+1) c mul1 r):Loop1 t_33 c mul1 r :=
 L.go mixed tabOk (n:=177) (ns:=[1,2,1,1,1,1,1,1,1]) (tr:=[.auto,.reg [],.dec true,.reg [(.nat t_33),(.ev (.pv (vI v)))],dr 9 1 [.none,.none,.none,(.pv of.pv),(.pv (.tup [(vB all),.nilI]))],.reg [],.dec false,.reg [(iI (((t_33+1):Nat):Int))],.keep [2,7,31,32,33]]) (cj (dltN_t h1) (cj (cj (Eq.refl (((t_33:Nat):Int):Int)) h1) (cj (o_get (enc:=intCell) (f:=fun a=>(vI a)) (fun _=>rfl) h2) (cj h3 (cj h4 (cj (Eq.refl false) (cj (Eq.refl false) (cj (bnot_f h5) (cj (bs_addN h6) True.intro))))))))) (by kernel_rfl) hL
theorem l13(t_33:Nat)(c:ACam)(mul1:ARat)(pos:Bool)(pos1:Option Int)(h1:2≤t_33)(h2:Contract prg 54 [c.pv] (.tup [(vB pos),(errPV pos1)])):Loop1 t_33 c mul1 (.tup [(vB pos),(errPV pos1)]) :=
 L.done mixed tabOk (n:=156) (ns:=[1,1]) (tr:=[.auto,.reg [],.dec false,.reg [.none,(.pv (.tup [(vB pos),(errPV pos1)]))]]) (cj (dltN_f h1) (cj h2 True.intro)) (by kernel_rfl)
end cam_Within
namespace cam_Convex
@[reducible] noncomputable def fn:Func:=Tryz.f56
noncomputable def atK1:List Itm:=focus [0,2,0,0,2,0,2,1,2,0,0,2,0,0] [.code (bodyOf fn)]
def inv1(t_18:Nat)(c:ACam)(low hig:ARat):St:=⟨[(1,(.ptr 1 0)),(16,(.row 16 0 2 3)),(17,(eI 2)),(18,(eI (t_18:Int)))],[(1,(.lit [(eB c.base.neg),(.pv (wordsPV c.base.num)),(.pv (wordsPV c.base.den)),(.pv (polyPV c.lift.breaks)),(.pv (lpv (lcell ARat.cells) c.lift.pieces))])),(16,(.pure (([low,hig]:List ARat).map ARat.cells).flatten))]⟩
@[reducible] noncomputable def Loop1(t_18:Nat)(c:ACam)(low hig:ARat)(r:PV):Prop:=L prg fn atK1 (inv1 t_18 c low hig) r
theorem e0(c:ACam)(low hig:ARat){r:PV}(h1:Contract prg 47 [c.pv] .nilI)(h2:Contract prg 111 [] low.pv)(h3:Contract prg 110 [] hig.pv)(hL:Loop1 0 c low hig r):Contract prg 56 [c.pv] r :=
 Contract.ofL Tryz.func56 (by kernel_rfl) (L.go mixed tabOk (n:=102) (ns:=[1,1,1]) (tr:=[.reg [],.reg [.none,(.pv .nilI)],.reg [],.auto,.reg [(.pv low.pv),(.pv hig.pv)],.keep [1,16,17,18],.ord [1,16]]) (cj h1 (cj h2 (cj h3 True.intro))) (by kernel_rfl) hL)
theorem l10(t_18:Nat)(c:ACam)(low hig v of squ:ARat)(all:Bool)(h1:t_18<2)(h2:[low,hig][t_18]? = some v)(h3:Contract prg 73 [(vI 1)] of.pv)(h4:Contract prg 113 [v.pv] squ.pv)(h5:Contract prg 126 [c.pv,of.pv,squ.pv,(vI 2)] (.tup [(vB all),.nilI]))(h6:all=false):Loop1 t_18 c low hig (.tup [(vB false),.nilI]) :=
 L.done mixed tabOk (n:=153) (ns:=[1,2,2,1,1,1,1,1,1]) (tr:=[.auto,.reg [],.dec true,.reg [(.nat t_18),(.seg [(vB v.neg),(wordsPV v.num),(wordsPV v.den)])],dr 9 1 [.none,(.pv of.pv),.none,(.pv squ.pv),(.pv (.tup [(vB all),.nilI]))],.reg [],.dec true,.reg []]) (cj (dltN_t h1) (cj (cj (Eq.refl (((t_18:Nat):Int):Int)) h1) (cj (o_seg sz_ARat h2) (cj h3 (cj h4 (cj h5 (cj (Eq.refl false) (cj (Eq.refl false) (cj (bnot_t h6) True.intro))))))))) (by kernel_rfl)
theorem l11(t_18:Nat)(c:ACam)(low hig v of squ:ARat)(all:Bool){r:PV}(h1:t_18<2)(h2:[low,hig][t_18]? = some v)(h3:Contract prg 73 [(vI 1)] of.pv)(h4:Contract prg 113 [v.pv] squ.pv)(h5:Contract prg 126 [c.pv,of.pv,squ.pv,(vI 2)] (.tup [(vB all),.nilI]))(h6:all=true)(h7:(t_18+1)<9223372036854775808)(hL:Loop1 (t_18+1) c low hig r):Loop1 t_18 c low hig r :=
 L.go mixed tabOk (n:=156) (ns:=[1,2,2,1,1,1,1,1,1,1]) (tr:=[.auto,.reg [],.dec true,.reg [(.nat t_18),(.seg [(vB v.neg),(wordsPV v.num),(wordsPV v.den)])],dr 9 1 [.none,(.pv of.pv),.none,(.pv squ.pv),(.pv (.tup [(vB all),.nilI]))],.reg [],.dec false,.reg [(iI (((t_18+1):Nat):Int))],.keep [1,16,17,18],.drop [6]]) (cj (dltN_t h1) (cj (cj (Eq.refl (((t_18:Nat):Int):Int)) h1) (cj (o_seg sz_ARat h2) (cj h3 (cj h4 (cj h5 (cj (Eq.refl false) (cj (Eq.refl false) (cj (bnot_f h6) (cj (bs_addN h7) True.intro)))))))))) (by kernel_rfl) hL
theorem l13(t_18:Nat)(c:ACam)(low hig:ARat)(h1:2≤t_18):Loop1 t_18 c low hig (.tup [(vB true),.nilI]) :=
 L.done mixed tabOk (n:=135) (ns:=[1]) (tr:=[.auto,.reg [],.dec false,.reg []]) (cj (dltN_f h1) True.intro) (by kernel_rfl)
end cam_Convex
namespace cam_given
theorem e1(c:ACam)(x:ARat)(val:Bool)(h1:Contract prg 47 [c.pv] .nilI)(h2:Contract prg 97 [x.pv] (vB val))(h3:val=true):Contract prg 106 [c.pv,x.pv] .nilI :=
 Contract.ofL Tryz.func106 (by kernel_rfl) (L.done mixed tabOk (n:=108) (ns:=[1,1,1]) (tr:=[.reg [],.reg [.none,(.pv .nilI)],.reg [],.auto,.reg [.none,(.pv (vB val))],.dec false,.reg []]) (cj h1 (cj h2 (cj (bnot_f h3) True.intro))) (by kernel_rfl))
end cam_given
namespace cam_derived
@[reducible] noncomputable def fn:Func:=Tryz.f108
noncomputable def atK1:List Itm:=focus [0,2,0,0,2,0,0] [.code (bodyOf fn)]
def inv1(n:Int)(t_11:Nat)(site_3:ALaw)(x:ARat):St:=⟨[(3,(.ptr 3 0)),(5,(.ptr 5 0)),(6,(.ptr 6 0)),(10,(eI n)),(11,(eI (t_11:Int)))],[(3,(.lit [(.pv (polyPV site_3.breaks)),(.pv (lpv (lcell ARat.cells) site_3.pieces))])),(5,(.lit [(eB x.neg),(.pv (wordsPV x.num)),(.pv (wordsPV x.den))])),(6,(.lit [(eB false),(.pv (.list [])),(.pv (.list []))]))]⟩
@[reducible] noncomputable def Loop1(n:Int)(t_11:Nat)(site_3:ALaw)(x:ARat)(r:PV):Prop:=L prg fn atK1 (inv1 n t_11 site_3 x) r
theorem e0 (l : ALaw) (n : Int) (x : ARat) {r : PV}  (hL : Loop1 n 0 l x r) : Contract prg 108 [l.pv, (vI n), x.pv] r :=
 Contract.ofL Tryz.func108 (by kernel_rfl) (L.go mixed tabOk (n:=81) (ns:=[]) (tr:=[.reg [],.reg [],.keep [3,5,6,10,11],.ord [3,5,6]]) True.intro (by kernel_rfl) hL)
theorem l10(n:Int)(t_11:Nat)(site_3:ALaw)(x:ARat)(der:ALaw){r:PV}(h1:(t_11:Int)<n)(h2:Contract prg 185 [site_3.pv] (.tup [der.pv,.nilI]))(h3:(t_11+1)<9223372036854775808)(hL:Loop1 n (t_11+1) der x r):Loop1 n t_11 site_3 x r :=
 L.go mixed tabOk (n:=135) (ns:=[1,1,1]) (tr:=[.auto,.reg [],.dec true,.reg [.none,(.pv (.tup [der.pv,.nilI]))],.reg [],.auto,.reg [],.reg [(iI (((t_11+1):Nat):Int))],.keep [3,5,6,10,11],.drop [8]]) (cj (dlt_t h1) (cj h2 (cj (bs_addN h3) True.intro))) (by kernel_rfl) hL
theorem l12(n:Int)(t_11:Nat)(site_3:ALaw)(x atV:ARat)(atV1:Option Int)(h1:n≤(t_11:Int))(h2:Contract prg 107 [site_3.pv,x.pv] (.tup [atV.pv,(errPV atV1)])):Loop1 n t_11 site_3 x (.tup [atV.pv,(errPV atV1)]) :=
 L.done mixed tabOk (n:=114) (ns:=[1,1]) (tr:=[.auto,.reg [],.dec false,.reg [.none,.none,(.pv (.tup [atV.pv,(errPV atV1)]))]]) (cj (dlt_f h1) (cj h2 True.intro)) (by kernel_rfl)
end cam_derived
namespace cam_high
theorem e0(rat:ARat)(h1:Contract prg 187 [(vI 355),(vI 113)] rat.pv):Contract prg 110 [] rat.pv :=
 Contract.ofL Tryz.func110 (by kernel_rfl) (L.done mixed tabOk (n:=72) (ns:=[1]) (tr:=[.reg [],.reg [(.pv rat.pv)]]) (cj h1 True.intro) (by kernel_rfl))
end cam_high
namespace cam_low
theorem e0(rat:ARat)(h1:Contract prg 187 [(vI 333),(vI 106)] rat.pv):Contract prg 111 [] rat.pv :=
 Contract.ofL Tryz.func111 (by kernel_rfl) (L.done mixed tabOk (n:=72) (ns:=[1]) (tr:=[.reg [],.reg [(.pv rat.pv)]]) (cj h1 True.intro) (by kernel_rfl))
end cam_low
namespace cam_enclose
theorem e0(a b:ARat)(poi poi1 hul:ARange)(h1:Contract prg 189 [a.pv] poi.pv)(h2:Contract prg 189 [b.pv] poi1.pv)(h3:Contract prg 188 [poi.pv,poi1.pv] hul.pv):Contract prg 112 [a.pv,b.pv] hul.pv :=
 Contract.ofL Tryz.func112 (by kernel_rfl) (L.done mixed tabOk (n:=72) (ns:=[1,1,1]) (tr:=[.reg [],dr 5 1 [.none,(.pv poi.pv),.none,(.pv poi1.pv),(.pv hul.pv)]]) (cj h1 (cj h2 (cj h3 True.intro))) (by kernel_rfl))
end cam_enclose
namespace cam_square
theorem e0(pi of of1 mul mul1 div:ARat)(div1:Option Int)(h1:Contract prg 73 [(vI 1)] of.pv)(h2:Contract prg 73 [(vI 4)] of1.pv)(h3:Contract prg 85 [pi.pv,pi.pv] mul.pv)(h4:Contract prg 85 [of1.pv,mul.pv] mul1.pv)(h5:Contract prg 109 [of.pv,mul1.pv] (.tup [div.pv,(errPV div1)])):Contract prg 113 [pi.pv] div.pv :=
 Contract.ofL Tryz.func113 (by kernel_rfl) (L.done mixed tabOk (n:=78) (ns:=[1,1,1,1,1]) (tr:=[.reg [],dr 12 1 [(.pv of.pv),(.pv of1.pv),.none,.none,(.pv mul.pv),(.pv mul1.pv),(.pv (.tup [div.pv,(errPV div1)]))],.reg []]) (cj h1 (cj h2 (cj h3 (cj h4 (cj h5 True.intro))))) (by kernel_rfl))
end cam_square
namespace cam_all
@[reducible] noncomputable def fn:Func:=Tryz.f126
noncomputable def atK1:List Itm:=focus [0,2,0,2,0,0,2,0,0] [.code (bodyOf fn)]
def inv1(n:Int)(t_22:Nat)(c:ACam)(byV f:ARat)(site_10:ALaw):St:=⟨[(4,(.ptr 4 0)),(5,(.ptr 5 0)),(6,(.ptr 6 0)),(10,(.ptr 10 0)),(21,(eI n)),(22,(eI (t_22:Int)))],[(4,(.lit [(eB c.base.neg),(.pv (wordsPV c.base.num)),(.pv (wordsPV c.base.den)),(.pv (polyPV c.lift.breaks)),(.pv (lpv (lcell ARat.cells) c.lift.pieces))])),(5,(.lit [(eB byV.neg),(.pv (wordsPV byV.num)),(.pv (wordsPV byV.den))])),(6,(.lit [(eB f.neg),(.pv (wordsPV f.num)),(.pv (wordsPV f.den))])),(10,(.lit [(.pv (polyPV site_10.breaks)),(.pv (lpv (lcell ARat.cells) site_10.pieces))]))]⟩
@[reducible] noncomputable def Loop1(n:Int)(t_22:Nat)(c:ACam)(byV f:ARat)(site_10:ALaw)(r:PV):Prop:=L prg fn atK1 (inv1 n t_22 c byV f site_10) r
noncomputable def atK2:List Itm:=focus [0,2,0,2,0,0,2,0,0,0,0,2,0,1,2,2,2,2,0,0,2,0,0] [.code (bodyOf fn)]
def inv2(c:ACam)(t_38:Nat)(byV f:ARat)(site_10:ALaw):St:=⟨[(4,(.ptr 4 0)),(5,(.ptr 5 0)),(6,(.ptr 6 0)),(10,(.ptr 10 0)),(36,(.pv (lpv (lcell ARat.cells) c.lift.pieces))),(37,(eI (c.lift.pieces.length:Int))),(38,(eI (t_38:Int)))],[(4,(.lit [(eB c.base.neg),(.pv (wordsPV c.base.num)),(.pv (wordsPV c.base.den)),(.pv (polyPV c.lift.breaks)),(.pv (lpv (lcell ARat.cells) c.lift.pieces))])),(5,(.lit [(eB byV.neg),(.pv (wordsPV byV.num)),(.pv (wordsPV byV.den))])),(6,(.lit [(eB f.neg),(.pv (wordsPV f.num)),(.pv (wordsPV f.den))])),(10,(.lit [(.pv (polyPV site_10.breaks)),(.pv (lpv (lcell ARat.cells) site_10.pieces))]))]⟩
@[reducible] noncomputable def Loop2(c:ACam)(t_38:Nat)(byV f:ARat)(site_10:ALaw)(r:PV):Prop:=L prg fn atK2 (inv2 c t_38 byV f site_10) r
theorem e0 (c : ACam) (byV f : ARat) (n : Int) {r : PV}  (hL : Loop1 n 0 c byV f c.lift r) : Contract prg 126 [c.pv, byV.pv, f.pv, (vI n)] r :=
 Contract.ofL Tryz.func126 (by kernel_rfl) (L.go mixed tabOk (n:=87) (ns:=[]) (tr:=[.reg [],.reg [],.reg [],.keep [4,5,6,10,21,22],.ord [4,5,6,10]]) True.intro (by kernel_rfl) hL)
theorem l10(n:Int)(t_22:Nat)(c:ACam)(byV f:ARat)(site_10 der:ALaw){r:PV}(h1:(t_22:Int)<n)(h2:Contract prg 185 [site_10.pv] (.tup [der.pv,.nilI]))(h3:(t_22+1)<9223372036854775808)(hL:Loop1 n (t_22+1) c byV f der r):Loop1 n t_22 c byV f site_10 r :=
 L.go mixed tabOk (n:=141) (ns:=[1,1,1]) (tr:=[.auto,.reg [],.dec true,.reg [.none,(.pv (.tup [der.pv,.nilI]))],.reg [],.auto,.reg [],.reg [(iI (((t_22+1):Nat):Int))],.keep [4,5,6,10,21,22],.drop [11]]) (cj (dlt_t h1) (cj h2 (cj (bs_addN h3) True.intro))) (by kernel_rfl) hL
theorem l12(n:Int)(t_22:Nat)(c:ACam)(byV f:ARat)(site_10:ALaw){r:PV}(h1:n≤(t_22:Int))(hL:Loop2 c 0 byV f site_10 r):Loop1 n t_22 c byV f site_10 r :=
 L.go mixed tabOk (n:=129) (ns:=[1,1]) (tr:=[.auto,.reg [],.dec false,.reg [.none,.none,.none,(iI (c.lift.pieces.length:Int))],.keep [4,5,6,10,36,37,38]]) (cj (dlt_f h1) (cj (o_len (lcell ARat.cells) c.lift.pieces) True.intro)) (by kernel_rfl) hL
theorem l20(c:ACam)(t_38:Nat)(byV f:ARat)(site_10:ALaw)(v v1 com:List ARat)(of v2 v3 sub:ARat)(pos:Bool)(h1:t_38<c.lift.pieces.length)(h2:c.lift.pieces[t_38]? = some v)(h3:site_10.pieces[t_38]? = some v1)(h4:Contract prg 198 [c.base.pv,byV.pv,(polyPV v),f.pv,(polyPV v1)] (.tup [(polyPV com),.nilI]))(h5:Contract prg 73 [(vI 1)] of.pv)(h6:(t_38+1)<9223372036854775808)(h7:(t_38+1)<c.lift.breaks.length)(h8:c.lift.breaks[(t_38+1)]? = some v2)(h9:c.lift.breaks[t_38]? = some v3)(h10:Contract prg 146 [v2.pv,v3.pv] sub.pv)(h11:Contract prg 199 [(polyPV com),sub.pv] (.tup [(vB pos),.nilI]))(h12:pos=false):Loop2 c t_38 byV f site_10 (.tup [(vB false),.nilI]) :=
 L.done mixed tabOk (n:=222) (ns:=[1,3,3,1,1,1,1,1,1,3,3,1,1,1,1,1]) (tr:=[.auto,.reg [],.dec true,.reg [.none,(.row t_38 ((lcell ARat.cells) v))],dr 15 1 [.none,.none,.none,.none,.none,.none,.none,.none,(.row t_38 ((lcell ARat.cells) v1)),.none,(.pv (.tup [(polyPV com),.nilI]))],.reg [],.auto,.reg [(.pv of.pv)],.reg [.none,(iI (((t_38+1):Nat):Int)),.none,.none,.none,(iI (c.lift.breaks.length:Int))],.dec true,.reg [.none,.none,.none,.none,(iI (((t_38+1):Nat):Int)),(.row (t_38+1) (ARat.cells v2))],dr 14 1 [.none,.none,.none,.none,.none,.none,(.row t_38 (ARat.cells v3)),.none,(.pv sub.pv),(.pv (.tup [(vB pos),.nilI]))],.reg [],.dec true,.reg []]) (cj (dltN_t h1) (cj (o_at (lcell ARat.cells) (Eq.refl (((t_38:Nat):Int):Int)) h2) (cj (o_at (lcell ARat.cells) (Eq.refl (((t_38:Nat):Int):Int)) h3) (cj h4 (cj h5 (cj (bs_addN h6) (cj (o_len ARat.cells c.lift.breaks) (cj (dltN_t h7) (cj (bs_addN h6) (cj (o_at ARat.cells (Eq.refl ((((t_38+1):Nat):Int):Int)) h8) (cj (o_at ARat.cells (Eq.refl (((t_38:Nat):Int):Int)) h9) (cj h10 (cj h11 (cj (Eq.refl false) (cj (Eq.refl false) (cj (bnot_t h12) True.intro)))))))))))))))) (by kernel_rfl)
theorem l21(c:ACam)(t_38:Nat)(byV f:ARat)(site_10:ALaw)(v v1 com:List ARat)(of v2 v3 sub:ARat)(pos:Bool){r:PV}(h1:t_38<c.lift.pieces.length)(h2:c.lift.pieces[t_38]? = some v)(h3:site_10.pieces[t_38]? = some v1)(h4:Contract prg 198 [c.base.pv,byV.pv,(polyPV v),f.pv,(polyPV v1)] (.tup [(polyPV com),.nilI]))(h5:Contract prg 73 [(vI 1)] of.pv)(h6:(t_38+1)<9223372036854775808)(h7:(t_38+1)<c.lift.breaks.length)(h8:c.lift.breaks[(t_38+1)]? = some v2)(h9:c.lift.breaks[t_38]? = some v3)(h10:Contract prg 146 [v2.pv,v3.pv] sub.pv)(h11:Contract prg 199 [(polyPV com),sub.pv] (.tup [(vB pos),.nilI]))(h12:pos=true)(hL:Loop2 c (t_38+1) byV f site_10 r):Loop2 c t_38 byV f site_10 r :=
 L.go mixed tabOk (n:=225) (ns:=[1,3,3,1,1,1,1,1,1,3,3,1,1,1,1,1,1]) (tr:=[.auto,.reg [],.dec true,.reg [.none,(.row t_38 ((lcell ARat.cells) v))],dr 15 1 [.none,.none,.none,.none,.none,.none,.none,.none,(.row t_38 ((lcell ARat.cells) v1)),.none,(.pv (.tup [(polyPV com),.nilI]))],.reg [],.auto,.reg [(.pv of.pv)],.reg [.none,(iI (((t_38+1):Nat):Int)),.none,.none,.none,(iI (c.lift.breaks.length:Int))],.dec true,.reg [.none,.none,.none,.none,(iI (((t_38+1):Nat):Int)),(.row (t_38+1) (ARat.cells v2))],dr 14 1 [.none,.none,.none,.none,.none,.none,(.row t_38 (ARat.cells v3)),.none,(.pv sub.pv),(.pv (.tup [(vB pos),.nilI]))],.reg [],.dec false,.reg [(iI (((t_38+1):Nat):Int))],.keep [4,5,6,10,36,37,38],.drop [17]]) (cj (dltN_t h1) (cj (o_at (lcell ARat.cells) (Eq.refl (((t_38:Nat):Int):Int)) h2) (cj (o_at (lcell ARat.cells) (Eq.refl (((t_38:Nat):Int):Int)) h3) (cj h4 (cj h5 (cj (bs_addN h6) (cj (o_len ARat.cells c.lift.breaks) (cj (dltN_t h7) (cj (bs_addN h6) (cj (o_at ARat.cells (Eq.refl ((((t_38+1):Nat):Int):Int)) h8) (cj (o_at ARat.cells (Eq.refl (((t_38:Nat):Int):Int)) h9) (cj h10 (cj h11 (cj (Eq.refl false) (cj (Eq.refl false) (cj (bnot_f h12) (cj (bs_addN h6) True.intro))))))))))))))))) (by kernel_rfl) hL
theorem l23(c:ACam)(t_38:Nat)(byV f:ARat)(site_10:ALaw)(v v1 com:List ARat)(of v2 sub:ARat)(pos:Bool)(h1:t_38<c.lift.pieces.length)(h2:c.lift.pieces[t_38]? = some v)(h3:site_10.pieces[t_38]? = some v1)(h4:Contract prg 198 [c.base.pv,byV.pv,(polyPV v),f.pv,(polyPV v1)] (.tup [(polyPV com),.nilI]))(h5:Contract prg 73 [(vI 1)] of.pv)(h6:(t_38+1)<9223372036854775808)(h7:c.lift.breaks.length≤(t_38+1))(h8:c.lift.breaks[t_38]? = some v2)(h9:Contract prg 146 [of.pv,v2.pv] sub.pv)(h10:Contract prg 199 [(polyPV com),sub.pv] (.tup [(vB pos),.nilI]))(h11:pos=false):Loop2 c t_38 byV f site_10 (.tup [(vB false),.nilI]) :=
 L.done mixed tabOk (n:=222) (ns:=[1,3,3,1,1,1,1,1,3,1,1,1,1,1]) (tr:=[.auto,.reg [],.dec true,.reg [.none,(.row t_38 ((lcell ARat.cells) v))],dr 15 1 [.none,.none,.none,.none,.none,.none,.none,.none,(.row t_38 ((lcell ARat.cells) v1)),.none,(.pv (.tup [(polyPV com),.nilI]))],.reg [],.auto,.reg [(.pv of.pv)],.reg [.none,(iI (((t_38+1):Nat):Int)),.none,.none,.none,(iI (c.lift.breaks.length:Int))],.dec false,dr 14 1 [.none,.none,.none,.none,.none,.none,(.row t_38 (ARat.cells v2)),.none,(.pv sub.pv),(.pv (.tup [(vB pos),.nilI]))],.reg [],.dec true,.reg []]) (cj (dltN_t h1) (cj (o_at (lcell ARat.cells) (Eq.refl (((t_38:Nat):Int):Int)) h2) (cj (o_at (lcell ARat.cells) (Eq.refl (((t_38:Nat):Int):Int)) h3) (cj h4 (cj h5 (cj (bs_addN h6) (cj (o_len ARat.cells c.lift.breaks) (cj (dltN_f h7) (cj (o_at ARat.cells (Eq.refl (((t_38:Nat):Int):Int)) h8) (cj h9 (cj h10 (cj (Eq.refl false) (cj (Eq.refl false) (cj (bnot_t h11) True.intro)))))))))))))) (by kernel_rfl)
theorem l24(c:ACam)(t_38:Nat)(byV f:ARat)(site_10:ALaw)(v v1 com:List ARat)(of v2 sub:ARat)(pos:Bool){r:PV}(h1:t_38<c.lift.pieces.length)(h2:c.lift.pieces[t_38]? = some v)(h3:site_10.pieces[t_38]? = some v1)(h4:Contract prg 198 [c.base.pv,byV.pv,(polyPV v),f.pv,(polyPV v1)] (.tup [(polyPV com),.nilI]))(h5:Contract prg 73 [(vI 1)] of.pv)(h6:(t_38+1)<9223372036854775808)(h7:c.lift.breaks.length≤(t_38+1))(h8:c.lift.breaks[t_38]? = some v2)(h9:Contract prg 146 [of.pv,v2.pv] sub.pv)(h10:Contract prg 199 [(polyPV com),sub.pv] (.tup [(vB pos),.nilI]))(h11:pos=true)(hL:Loop2 c (t_38+1) byV f site_10 r):Loop2 c t_38 byV f site_10 r :=
 L.go mixed tabOk (n:=225) (ns:=[1,3,3,1,1,1,1,1,3,1,1,1,1,1,1]) (tr:=[.auto,.reg [],.dec true,.reg [.none,(.row t_38 ((lcell ARat.cells) v))],dr 15 1 [.none,.none,.none,.none,.none,.none,.none,.none,(.row t_38 ((lcell ARat.cells) v1)),.none,(.pv (.tup [(polyPV com),.nilI]))],.reg [],.auto,.reg [(.pv of.pv)],.reg [.none,(iI (((t_38+1):Nat):Int)),.none,.none,.none,(iI (c.lift.breaks.length:Int))],.dec false,dr 14 1 [.none,.none,.none,.none,.none,.none,(.row t_38 (ARat.cells v2)),.none,(.pv sub.pv),(.pv (.tup [(vB pos),.nilI]))],.reg [],.dec false,.reg [(iI (((t_38+1):Nat):Int))],.keep [4,5,6,10,36,37,38],.drop [17]]) (cj (dltN_t h1) (cj (o_at (lcell ARat.cells) (Eq.refl (((t_38:Nat):Int):Int)) h2) (cj (o_at (lcell ARat.cells) (Eq.refl (((t_38:Nat):Int):Int)) h3) (cj h4 (cj h5 (cj (bs_addN h6) (cj (o_len ARat.cells c.lift.breaks) (cj (dltN_f h7) (cj (o_at ARat.cells (Eq.refl (((t_38:Nat):Int):Int)) h8) (cj h9 (cj h10 (cj (Eq.refl false) (cj (Eq.refl false) (cj (bnot_f h11) (cj (bs_addN h6) True.intro))))))))))))))) (by kernel_rfl) hL
theorem l27(c:ACam)(t_38:Nat)(byV f:ARat)(site_10:ALaw)(h1:c.lift.pieces.length≤t_38):Loop2 c t_38 byV f site_10 (.tup [(vB true),.nilI]) :=
 L.done mixed tabOk (n:=162) (ns:=[1]) (tr:=[.auto,.reg [],.dec false,.reg []]) (cj (dltN_f h1) True.intro) (by kernel_rfl)
end cam_all
namespace cam_ratio
theorem e0(n d:Int)(mak:ARat)(mak1:Option Int)(h1:Contract prg 215 [(vI n),(vI d)] (.tup [mak.pv,(errPV mak1)])):Contract prg 187 [(vI n),(vI d)] mak.pv :=
 Contract.ofL Tryz.func187 (by kernel_rfl) (L.done mixed tabOk (n:=78) (ns:=[1]) (tr:=[.reg [],.reg [.none,.none,(.pv (.tup [mak.pv,(errPV mak1)]))],.reg []]) (cj h1 True.intro) (by kernel_rfl))
end cam_ratio
namespace cam_combined
theorem e0(base byV:ARat)(p:List ARat)(f:ARat)(q tri add sca sca2 add2:List ARat)(add3:Option Int)(h1:Contract prg 148 [(polyPV [base])] (polyPV tri))(h2:Contract prg 33 [(polyPV tri),(polyPV p)] (.tup [(polyPV add),.nilI]))(h3:Contract prg 72 [(polyPV add),byV.pv] (.tup [(polyPV sca),.nilI]))(h4:Contract prg 72 [(polyPV q),f.pv] (.tup [(polyPV sca2),.nilI]))(h5:Contract prg 33 [(polyPV sca),(polyPV sca2)] (.tup [(polyPV add2),(errPV add3)])):Contract prg 198 [base.pv,byV.pv,(polyPV p),f.pv,(polyPV q)] (.tup [(polyPV add2),(errPV add3)]) :=
 Contract.ofL Tryz.func198 (by kernel_rfl) (L.done mixed tabOk (n:=135) (ns:=[3,1,1,1,1,1]) (tr:=[.reg [],.reg [.none,(.slc 0 0 (([base]:List ARat).map ARat.cells)),(.pv (polyPV tri)),.none,(.pv (.tup [(polyPV add),.nilI]))],.reg [],.auto,.reg [.none,.none,(.pv (.tup [(polyPV sca),.nilI]))],.reg [],.auto,.reg [.none,.none,(.pv (.tup [(polyPV sca2),.nilI]))],.reg [],.auto,.reg [.none,.none,(.pv (.tup [(polyPV add2),(errPV add3)]))]]) (cj (o_bs sz_ARat ([base]:List ARat)) (cj h1 (cj h2 (cj h3 (cj h4 (cj h5 True.intro)))))) (by kernel_rfl))
end cam_combined
namespace cam_positive
theorem e0(q:List ARat)(length eva:ARat)(sig:Int)(h1:Contract prg 27 [(polyPV q),(⟨false,[],[]⟩:ARat).pv] (.tup [eva.pv,.nilI]))(h2:Contract prg 39 [eva.pv] (vI sig))(h3:sig≤0):Contract prg 199 [(polyPV q),length.pv] (.tup [(vB false),.nilI]) :=
 Contract.ofL Tryz.func199 (by kernel_rfl) (L.done mixed tabOk (n:=90) (ns:=[1,1,1,1,1,1]) (tr:=[.reg [],.reg [.none,.none,(.pv (.tup [eva.pv,.nilI]))],.reg [.none,.none,.none,.none,(.pv (vI sig))],.dec true,.reg []]) (cj h1 (cj (Eq.refl false) (cj (Eq.refl false) (cj h2 (cj (Eq.refl false) (cj (dle_t h3) True.intro)))))) (by kernel_rfl))
theorem e1(q:List ARat)(length eva:ARat)(sig cou:Int)(h1:Contract prg 27 [(polyPV q),(⟨false,[],[]⟩:ARat).pv] (.tup [eva.pv,.nilI]))(h2:Contract prg 39 [eva.pv] (vI sig))(h3:0<sig)(h4:Contract prg 159 [(polyPV q),(⟨false,[],[]⟩:ARat).pv,length.pv] (.tup [(vI cou),.nilI])):Contract prg 199 [(polyPV q),length.pv] (.tup [(vB (cou==0)),.nilI]) :=
 Contract.ofL Tryz.func199 (by kernel_rfl) (L.done mixed tabOk (n:=99) (ns:=[1,1,1,1,1,1,1,1,1]) (tr:=[.reg [],.reg [.none,.none,(.pv (.tup [eva.pv,.nilI]))],.reg [.none,.none,.none,.none,(.pv (vI sig))],.dec false,.reg [.none,.none,.none,(.pv (.tup [(vI cou),.nilI]))],.reg []]) (cj h1 (cj (Eq.refl false) (cj (Eq.refl false) (cj h2 (cj (Eq.refl false) (cj (dle_f h3) (cj h4 (cj (Eq.refl true) (cj (Eq.refl true) True.intro))))))))) (by kernel_rfl))
end cam_positive
end Go.Proofs.YtbgkjomonebfcaaGreat.Sym.Path
namespace Go.Proofs.YtbgkjomonebfcaaGreat.Sym
open Go Path CInt
set_option linter.unusedVariables false
def chkCam(c:ACam):Int:=if chkLaw c.lift=0 then (if c.base.valid=true∧0<c.base.val then 0 else 3) else chkLaw c.lift
structure GCam (c:ACam):Prop where
 law:chkLaw c.lift=0
 bv:c.base.valid=true
 b0:0<c.base.val
 fb:ht c.base.val≤4
 fl:FitW 1 c.lift
 len:∀p∈c.lift.pieces,p.length≤6
theorem gcam_chk{c:ACam}(g:GCam c):chkCam c=0:=by unfold chkCam;rw[if_pos g.law,if_pos ⟨g.bv,g.b0⟩]
theorem chkCam_zero{c:ACam}(h:chkCam c=0):chkLaw c.lift=0∧c.base.valid=true∧0<c.base.val:=by
 unfold chkCam at h
 by_cases h1:chkLaw c.lift=0
 ·rw[if_pos h1] at h
  by_cases h2:c.base.valid=true∧0<c.base.val
  ·exact⟨h1,h2⟩
  ·rw[if_neg h2] at h;cases h
 ·rw[if_neg h1] at h;exact absurd h h1
def piLo:Rat:=Rat.divInt 333 106
def piHi:Rat:=Rat.divInt 355 113
def radC(c:ACam)(x:Rat):Rat:=c.base.val+atW c.lift x
def sqP(pi:Rat):Rat:=1/(4*(pi*pi))
def combL(base byV:Rat)(p:List Rat)(f:Rat)(q:List Rat):List Rat:=trimL (addL (smulL byV (addL [base] p)) (smulL f q))
def posB(p:List Rat)(len:Rat):Bool:=decide (0<coef p 0)&&decide (chg (chainL p) 0-chg (chainL p) len=0)
def allF(c:ACam)(byV f:Rat)(d:ALaw):Nat→Nat→Bool
 |0,_=>true
 |j+1,t=>bif posB (combL c.base.val byV (pcW c.lift t) f (pcW d t)) (lenW c.lift t) then allF c byV f d j (t+1) else false
def allC(c:ACam)(byV f:Rat)(d:ALaw):Bool:=allF c byV f d c.lift.pieces.length 0
def tanP(c:ACam)(x pi:Rat):Rat:=atW (deriveW c.lift) x/(2*radC c x*pi)
def posC(c:ACam):Bool:=allC c 1 0 c.lift
def byW(limit:Rat):Rat:=2*(piLo*limit)
def withC(c:ACam)(limit:Rat):Bool:=allC c (byW limit) (-1) (deriveW c.lift)&&(allC c (byW limit) 1 (deriveW c.lift)&&posC c)
def convC(c:ACam):Bool:=allC c 1 (sqP piLo) (deriveW (deriveW c.lift))&&allC c 1 (sqP piHi) (deriveW (deriveW c.lift))
theorem coef_eval0:∀p:List Rat,coef p 0=evalL p 0
 |[]=>rfl
 |a::r=>by show a=evalL r 0*0+a;grind
theorem posB_iff{p:List Rat}(hz:lastZ p=false){len:Rat}(hl:0≤len):posB p len=true↔Pos p 0 len:=by
 unfold posB
 rw[Bool.and_eq_true,decide_eq_true_eq,decide_eq_true_eq,coef_eval0]
 by_cases h0:p=[]
 ·subst h0
  constructor
  ·intro⟨h,_⟩;exact absurd h Rat.lt_irrefl
  ·intro⟨c,c1,c2⟩
   have:=c2 0 Rat.le_refl hl
   have e:evalL [] 0=0:=rfl
   rw[e] at this
   grind
 ·rw[←pos_iff hz h0 hl]
  constructor
  ·intro⟨a,b⟩;exact⟨a,by omega⟩
  ·intro⟨a,b⟩;exact⟨a,by omega⟩
theorem combL_len(base byV:Rat)(p:List Rat)(f:Rat)(q:List Rat){n:Nat}(hn:1≤n)(hp:p.length≤n)(hq:q.length≤n):(combL base byV p f q).length≤n:=by
 unfold combL
 have:=len_trimL (addL (smulL byV (addL [base] p)) (smulL f q))
 rw[len_addL,len_smulL,len_addL,len_smulL] at this
 simp only[List.length_cons,List.length_nil] at this
 omega
theorem combL_fl{base byV f:Rat}{p q:List Rat}{a b k m n:Nat}(hb:ht base≤a)(hby:ht byV≤k)(hf:ht f≤m)(hp:Fl b p)(hq:Fl n q)(ha:1≤a)(h1:1≤b)(hn:1≤n):Fl (k+(a+b+1)+(m+n)+1) (combL base byV p f q):=by
 have h2:Fl (a+b+1) (addL [base] p):=fl_addL (fun x hx=>by rw[List.mem_singleton.1 hx];exact hb) hp ha h1
 have h3:Fl (k+(a+b+1)) (smulL byV (addL [base] p)):=fl_mono (fl_smulL h2) (by omega)
 have h4:Fl (m+n) (smulL f q):=fl_mono (fl_smulL hq) (by omega)
 exact fl_trimL (fl_addL h3 h4 (by omega) (by omega))
theorem combL_eval(base byV:Rat)(p:List Rat)(f:Rat)(q:List Rat)(x:Rat):evalL (combL base byV p f q) x=byV*(base+evalL p x)+f*evalL q x:=by
 unfold combL
 rw[evalL_trimL,evalL_addL,evalL_smulL,evalL_smulL,evalL_addL,eval_c]
theorem fine_of{p:List Rat}(hz:lastZ p=false)(h0:p≠[])(hl:p.length≤6)(hf:Fl 24 p):Fine 145 6 p:=by
 have h1:=Ch.of_fl hf
 have h2:p.length*24≤6*24:=Nat.mul_le_mul_right _ hl
 exact⟨hz,h0,hl,h1.mono (by omega),by omega,by omega,by decide⟩
theorem posB_neg{p:List Rat}{len:Rat}(h:¬0<coef p 0):posB p len=false:=by unfold posB;rw[decide_eq_false h];rfl
theorem posB_pos{p:List Rat}{len:Rat}(h:0<coef p 0):posB p len=((chg (chainL p) 0-chg (chainL p) len)==0):=by unfold posB;rw[decide_eq_true h,Bool.true_and];rfl
theorem pc_len6{c:ACam}(g:GCam c)(t:Nat):(pcW c.lift t).length≤6:=by
 unfold pcW
 cases h:c.lift.pieces[t]? with
 |some p=>have:=g.len p (List.mem_of_getElem? h);show(vals p).length≤6;unfold vals;rw[List.length_map];exact this
 |none=>simp
theorem pc_trim{l:ALaw}(g:Good l)(t:Nat):lastZ (pcW l t)=false:=by
 unfold pcW
 cases h:l.pieces[t]? with
 |some p=>exact chk_last (g.ps p (List.mem_of_getElem? h)).1
 |none=>rfl
structure GDer (c:ACam) (d:ALaw):Prop where
 good:chkLaw d=0
 fit:FitW 5 d
 pcs:d.pieces.length=c.lift.pieces.length
 len:∀t,(pcW d t).length≤6
theorem gder0{c:ACam}(g:GCam c):GDer c c.lift:=⟨g.law,⟨fun a ha=>⟨by have:=(g.fl.1 a ha).1;omega,by have:=(g.fl.1 a ha).2;omega⟩,fun p hp a ha=>⟨by have:=(g.fl.2 p hp a ha).1;omega,by have:=(g.fl.2 p hp a ha).2;omega⟩⟩,rfl,pc_len6 g⟩
theorem deriveW_len(l:ALaw):(deriveW l).pieces.length=l.pieces.length:=by unfold deriveW;simp
theorem gder1{c:ACam}(g:GCam c):GDer c (deriveW c.lift):=by
 have f:=fitW_derive (good_of g.law) (by omega) g.fl
 refine⟨chk_derive g.law,⟨fun a ha=>⟨by have:=(f.1 a ha).1;omega,by have:=(f.1 a ha).2;omega⟩,fun p hp a ha=>⟨by have:=(f.2 p hp a ha).1;omega,by have:=(f.2 p hp a ha).2;omega⟩⟩,deriveW_len _,fun t => ?_⟩
 rw[deriveW_pc]
 have:=len_deriveL (pcW c.lift t)
 have:=pc_len6 g t
 omega
theorem gder2{c:ACam}(g:GCam c):GDer c (deriveW (deriveW c.lift)):=by
 have h1:=gder1 g
 have f:=fitW_derive (good_of h1.good) (by omega) (fitW_derive (good_of g.law) (by omega) g.fl)
 refine⟨chk_derive h1.good,f,by rw[deriveW_len,deriveW_len],fun t => ?_⟩
 rw[deriveW_pc]
 have:=len_deriveL (pcW (deriveW c.lift) t)
 have:=h1.len t
 omega
theorem fitW_up{l:ALaw}{k m:Nat}(h:FitW k l)(hk:k≤m):FitW m l :=
 ⟨fun a ha=>⟨by have:=(h.1 a ha).1;omega,by have:=(h.1 a ha).2;omega⟩,fun p hp a ha=>⟨by have:=(h.2 p hp a ha).1;omega,by have:=(h.2 p hp a ha).2;omega⟩⟩
theorem base_mk{c:ACam}(g:GCam c):c.base=mkR c.base.val:=(mkR_of g.bv).symm
theorem ht_atD{l:ALaw}{x:Rat}(g:Good l)(hf:FitW 5 l)(hx:ht x≤4):ht (atW l x)≤2000:=by
 rw[atW_eq]
 have b1:=ht_frac hx
 have b2:=ht_brkW hf (by omega) (pieceL (vals l.breaks) (frac x))
 have b3:=ht_sub (frac x) (brkW l (pieceL (vals l.breaks) (frac x)))
 have b4:=ht_eval (pcW l (pieceL (vals l.breaks) (frac x))) (frac x-brkW l (pieceL (vals l.breaks) (frac x))) 20 (fun y hy=>Nat.le_trans (fl_pcW hf (by omega) _ y hy) (by omega)) (by omega)
 have b5:(pcW l (pieceL (vals l.breaks) (frac x))).length*(2*20+1)≤9*41:=Nat.mul_le_mul_right _ (pcW_len g _)
 omega
namespace CCa
theorem Check(c:ACam)(hf:FitW 1073741824 c.lift)(hb:c.base.num.length≤68719476736∧c.base.den.length≤68719476736):Contract prg 47 [c.pv] (errPV (errOf (chkCam c))):=by
 have hk:=CLw.Check c.lift hf
 unfold chkCam
 by_cases h:chkLaw c.lift=0
 ·rw[if_pos h]
  rw[h] at hk
  have hv:=CFr.Valid c.base ⟨by omega,by omega⟩
  have hs:=CFr.Sign c.base ⟨by omega,by omega⟩
  cases hvb:c.base.valid with
  |false =>
   rw[if_neg (by intro e;cases e.1)]
   exact cam_Check.e0 c _ hk hv hvb
  |true =>
   by_cases h0:0<c.base.val
   ·rw[if_pos ⟨rfl,h0⟩]
    exact cam_Check.e2 c _ _ hk hv hvb hs (cmpR_gt.2 h0)
   ·rw[if_neg (by intro e;exact h0 e.2)]
    exact cam_Check.e1 c _ _ hk hv hvb hs (cmpR_le.2 (by grind))
 ·rw[if_neg h]
  rw[errOf_ne h] at hk ⊢
  exact cam_Check.e3 c _ hk
theorem check{c:ACam}(g:GCam c):Contract prg 47 [c.pv] .nilI:=by
 have hb:=fit_mkRk g.fb
 rw[←base_mk g] at hb
 have:=Check c (fitW_up g.fl (by omega)) (by omega)
 rwa[gcam_chk g] at this
theorem low:Contract prg 111 [] (mkR piLo).pv:=cam_low.e0 _ (cam_ratio.e0 _ _ _ none (QF.Make 333 106 (by unfold InI64;omega) (by unfold InI64;omega) (by omega)))
theorem high:Contract prg 110 [] (mkR piHi).pv:=cam_high.e0 _ (cam_ratio.e0 _ _ _ none (QF.Make 355 113 (by unfold InI64;omega) (by unfold InI64;omega) (by omega)))
theorem Radius{c:ACam}(g:GCam c)(x:Rat)(hx:ht x≤4):Contract prg 43 [c.pv,(mkR x).pv] (.tup [(mkR (radC c x)).pv,.nilI]):=by
 have hx':=fit_mkRk hx
 have hg:=cam_given.e1 c (mkR x) _ (check g) (QF.Valid x (by omega)) rfl
 have ha:=CLw.At c.lift (mkR x) g.law (fitW_up g.fl (by omega)) (mkR_valid x) (by omega)
 rw[mkR_val] at ha
 have hh:=ht_atD (good_of g.law) (fitW_up g.fl (by omega)) hx
 have hfb:=g.fb
 have hadd:=QF.Add c.base.val (atW c.lift x) (by omega) (by omega)
 rw[←base_mk g] at hadd
 exact cam_Radius.e0 c _ _ _ hg ha hadd
theorem ht_rad{c:ACam}(g:GCam c){x:Rat}(hx:ht x≤4):ht (radC c x)≤2005:=by
 have hh:=ht_atD (good_of g.law) (fitW_up g.fl (by omega)) hx
 have hfb:=g.fb
 have:=ht_add c.base.val (atW c.lift x)
 unfold radC;omega
theorem derived1{c:ACam}(g:GCam c)(x:Rat)(hx:ht x≤4):Contract prg 108 [c.lift.pv,vI 1,(mkR x).pv] (.tup [(mkR (atW (deriveW c.lift) x)).pv,.nilI]):=by
 have hx':=fit_mkRk hx
 have h1:=gder1 g
 have hd:=CLw.Derive c.lift g.law (fitW_up g.fl (by omega))
 have ha:=CLw.At (deriveW c.lift) (mkR x) h1.good (fitW_up h1.fit (by omega)) (mkR_valid x) (by omega)
 rw[mkR_val] at ha
 exact cam_derived.e0 _ _ _ (cam_derived.l10 1 0 _ _ _ (by omega) hd (by omega) (cam_derived.l12 1 1 _ _ _ none (by omega) ha))
theorem enclose(a b:Rat)(ha:ht a≤68719476736)(hb:ht b≤68719476736):Contract prg 112 [(mkR a).pv,(mkR b).pv] (mkG (minR a b) (maxR a b)).pv:=by
 have h:=CIv.Hull (mkG a a) (mkG b b) (fit_mkG ha ha) (fit_mkG hb hb)
 rw[loG_mk Rat.le_refl,loG_mk Rat.le_refl,hiG_mk Rat.le_refl,hiG_mk Rat.le_refl] at h
 exact cam_enclose.e0 _ _ _ _ _ (CIv.Point a ha) (CIv.Point b hb) h
theorem square(pi:Rat)(hp:ht pi≤4)(h0:pi≠0):Contract prg 113 [(mkR pi).pv] (mkR (sqP pi)).pv:=by
 have z1:ht ((1:Int):Rat)≤1:=by decide
 have z4:ht ((4:Int):Rat)≤1:=by decide
 have m1:=ht_mul pi pi
 have m2:=ht_mul ((4:Int):Rat) (pi*pi)
 have hne:((4:Int):Rat)*(pi*pi)≠0:=by
  intro e
  rcases Rat.mul_eq_zero.1 e with e|e
  ·exact absurd e (by decide)
  ·rcases Rat.mul_eq_zero.1 e with e|e<;>exact h0 e
 exact cam_square.e0 _ _ _ _ _ _ none (CFr.Of 1 (by unfold InI64;omega)) (CFr.Of 4 (by unfold InI64;omega)) (QF.Mul pi pi (by omega) (by omega)) (QF.Mul _ _ (by omega) (by omega)) (QF.Div _ _ (by omega) (by omega) hne)
theorem Pressure{c:ACam}(g:GCam c)(x:Rat)(hx:ht x≤4)(h:0<radC c x):Contract prg 44 [c.pv,(mkR x).pv] (.tup [(mkG (minR (tanP c x piHi) (tanP c x piLo)) (maxR (tanP c x piHi) (tanP c x piLo))).pv,.nilI]):=by
 have hr:=ht_rad g hx
 have hd:=ht_atD (good_of (gder1 g).good) (gder1 g).fit hx
 have z2:ht ((2:Int):Rat)≤1:=by decide
 have p1:ht piHi≤1:=by decide
 have p2:ht piLo≤1:=by decide
 have m0:=ht_mul ((2:Int):Rat) (radC c x)
 have m1:=ht_mul (((2:Int):Rat)*radC c x) piHi
 have m2:=ht_mul (((2:Int):Rat)*radC c x) piLo
 have n0:((2:Int):Rat)*radC c x≠0:=by
  intro e
  rcases Rat.mul_eq_zero.1 e with e|e
  ·exact absurd e (by decide)
  ·rw[e] at h;exact absurd h Rat.lt_irrefl
 have n1:((2:Int):Rat)*radC c x*piHi≠0:=by
  intro e
  rcases Rat.mul_eq_zero.1 e with e|e
  ·exact n0 e
  ·exact absurd e (by decide)
 have n2:((2:Int):Rat)*radC c x*piLo≠0:=by
  intro e
  rcases Rat.mul_eq_zero.1 e with e|e
  ·exact n0 e
  ·exact absurd e (by decide)
 have d1:=ht_div (atW (deriveW c.lift) x) (((2:Int):Rat)*radC c x*piHi)
 have d2:=ht_div (atW (deriveW c.lift) x) (((2:Int):Rat)*radC c x*piLo)
 exact cam_Pressure.e1 c _ _ _ _ _ _ _ _ _ _ _ _ _ (Radius g x hx) (QF.Sign _ (by omega)) (cmpR_gt.2 h) (derived1 g x hx) (CFr.Of 2 (by unfold InI64;omega)) (QF.Mul _ _ (by omega) (by omega)) high (QF.Mul _ _ (by omega) (by omega)) (QF.Div _ _ (by omega) (by omega) n1) low (QF.Mul _ _ (by omega) (by omega)) (QF.Div _ _ (by omega) (by omega) n2) (enclose _ _ (by omega) (by omega))
theorem AddQ{a b:Nat}(p q:List Rat)(zp:lastZ p=false)(zq:lastZ q=false)(lp:p.length≤65)(lq:q.length≤65)(hp:Fl a p)(hq:Fl b q)(ha:1≤a)(hb:1≤b)(hk:a+b+2≤68719476736):Contract prg 33 [pq p,pq q] (.tup [pq (trimL (addL p q)),.nilI]):=by
 have hck:=CPl.checks2 (p.map mkR) (q.map mkR) (fitQ hp (by omega)) (fitQ hq (by omega))
 rw[chk2_zero (chk_map zp lp) (chk_map zq lq)] at hck
 have h:=CPl.plus (d:=1) p q ((1:Int):Rat) (by omega) (by omega) hp hq (by decide) ha hb (by omega)
 rw[show ((1:Int):Rat)=1 from rfl,smulL_one] at h
 exact poly_Add.e0 _ _ _ _ hck (CFr.Of 1 (by unfold InI64;omega)) h
theorem ScaleQ{a d:Nat}(p:List Rat)(c:Rat)(zp:lastZ p=false)(lp:p.length≤65)(hp:Fl a p)(hc:ht c≤d)(ha:1≤a)(hk:a+d+2≤68719476736):Contract prg 72 [pq p,(mkR c).pv] (.tup [pq (trimL (smulL c p)),.nilI]):=by
 have hck:=CPo.Check (p.map mkR) (fitQ hp (by omega))
 rw[chk_map zp lp] at hck
 exact poly_Scale.e0 _ _ _ hck (CPl.plus (a:=1) (d:=d) [] p c (by simp) (by omega) (fun x hx=>by cases hx) hp hc (by omega) ha (by omega))
theorem comb_same(base byV:Rat)(p:List Rat)(f:Rat)(q:List Rat):trimL (addL (trimL (smulL byV (trimL (addL (trimL [base]) p)))) (trimL (smulL f q)))=combL base byV p f q :=
 eval_ext (fun x=>by simp only[evalL_addL,evalL_trimL,evalL_smulL])
theorem combined{base byV f:Rat}{p q:List Rat}(zp:lastZ p=false)(zq:lastZ q=false)(lp:p.length≤9)(lq:q.length≤9)(hb:ht base≤20)(hby:ht byV≤20)(hf:ht f≤20)(hp:Fl 20 p)(hq:Fl 20 q):Contract prg 198 [(mkR base).pv,(mkR byV).pv,pq p,(mkR f).pv,pq q] (.tup [pq (combL base byV p f q),.nilI]):=by
 have hb1:Fl 20 [base]:=fun x hx=>by rw[List.mem_singleton.1 hx];exact hb
 have t1:=CPl.Trim [base] (by simp) hb1 (by omega)
 have l1:=len_trimL [base]
 simp only[List.length_cons,List.length_nil] at l1
 have h2:Fl 41 (addL (trimL [base]) p):=fl_addL (fl_trimL hb1) hp (by omega) (by omega)
 have a1:=AddQ (trimL [base]) p (lastZ_trimL _) zp (by omega) (by omega) (fl_trimL hb1) hp (by omega) (by omega) (by omega)
 have l2:=len_trimL (addL (trimL [base]) p)
 rw[len_addL] at l2
 have s1:=ScaleQ (trimL (addL (trimL [base]) p)) byV (lastZ_trimL _) (by omega) (fl_trimL h2) hby (by omega) (by omega)
 have h3:Fl 61 (smulL byV (trimL (addL (trimL [base]) p))):=fl_mono (fl_smulL (fl_trimL h2)) (by omega)
 have s2:=ScaleQ q f zq (by omega) hq hf (by omega) (by omega)
 have h4:Fl 40 (smulL f q):=fl_mono (fl_smulL hq) (by omega)
 have l3:=len_trimL (smulL byV (trimL (addL (trimL [base]) p)))
 rw[len_smulL] at l3
 have l4:=len_trimL (smulL f q)
 rw[len_smulL] at l4
 have a2:=AddQ (trimL (smulL byV (trimL (addL (trimL [base]) p)))) (trimL (smulL f q)) (lastZ_trimL _) (lastZ_trimL _) (by omega) (by omega) (fl_trimL h3) (fl_trimL h4) (by omega) (by omega) (by omega)
 rw[comb_same] at a2
 exact cam_combined.e0 _ _ _ _ _ _ _ _ _ _ none t1 a1 s1 s2 a2
theorem positive{p:List Rat}(hz:lastZ p=false)(hl:p.length≤6)(hf:Fl 24 p)(len:Rat)(h0:0≤len)(hh:ht len≤100):Contract prg 199 [pq p,(mkR len).pv] (.tup [vB (posB p len),.nilI]):=by
 have hev:=CPo.Eval (p.map mkR) (mkR 0) (chk_map hz (by omega)) (fit_mapk (fl_mono hf (by omega))) (by constructor<;>decide)
 rw[vals_mkR,mkR_val,←coef_eval0] at hev
 have hs:=QF.Sign (coef p 0) (by have:=fl_coef hf (by omega) 0;omega)
 by_cases h:0<coef p 0
 ·have hne:p≠[]:=by intro e;rw[e] at h;exact absurd h Rat.lt_irrefl
  have hc:=CSt.Count (fine_of hz hne hl hf) 0 len h0 (by decide) (by omega)
  rw[posB_pos h]
  exact cam_positive.e1 _ _ _ _ _ hev hs (cmpR_gt.2 h) hc
 ·rw[posB_neg h]
  exact cam_positive.e0 _ _ _ _ hev hs (cmpR_le.2 (by grind))
theorem all2{c:ACam}(g:GCam c){byV f:Rat}(hby:ht byV≤7)(hf:ht f≤4){d:ALaw}(hd:GDer c d):cam_all.Loop2 c 0 (mkR byV) (mkR f) d (.tup [vB (allC c byV f d),.nilI]):=by
 have gl:=good_of g.law
 have gd:=good_of hd.good
 have hlen:=gl.len
 have hle:=gl.le
 have hdp:=hd.pcs
 have loop:∀(j t:Nat),c.lift.pieces.length-t=j→cam_all.Loop2 c t (mkR byV) (mkR f) d (.tup [vB (allF c byV f d j t),.nilI]):=by
  intro j
  induction j with
  |zero=>intro t hj;exact cam_all.l27 c t _ _ _ (by omega)
  |succ j ih =>
   intro t hj
   have ht:t<c.lift.pieces.length:=by omega
   obtain⟨b,p,hb,hp,eb,ep,hcp,h9⟩:=gl.at ht
   obtain⟨b',p',hb',hp',eb',ep',hcp',h9'⟩:=gd.at (t:=t) (by omega)
   rw[ep] at hp
   rw[ep'] at hp'
   rw[eb] at hb
   have l1:=pc_len6 g t
   have l2:=hd.len t
   have f1:=fl_pcW g.fl (by omega) t
   have f2:=fl_pcW hd.fit (by omega) t
   have hfb:=g.fb
   have hcomb:=combined (base:=c.base.val) (pc_trim gl t) (pc_trim gd t) (by omega) (by omega) (by omega) (show Sym.ht byV≤20 by omega) (show Sym.ht f≤20 by omega) (fl_mono f1 (by omega)) (fl_mono f2 (by omega))
   rw[←base_mk g] at hcomb
   have hcl:=combL_len c.base.val byV (pcW c.lift t) f (pcW d t) (n:=6) (by omega) l1 l2
   have hcf:=combL_fl (base:=c.base.val) g.fb hby hf f1 f2 (by omega) (by omega) (by omega)
   have hlp:=lenW_pos gl (t:=t) (by omega)
   have hlh:=ht_lenW g.fl (by omega) t
   have hpo:=positive (p:=combL c.base.val byV (pcW c.lift t) f (pcW d t)) (lastZ_trimL _) hcl (fl_mono hcf (by omega)) (lenW c.lift t) (Rat.le_of_lt hlp) (by omega)
   have e1:=ht_endW g.fl (by omega) t
   have e2:=ht_brkW g.fl (by omega) t
   have hone:=CFr.Of 1 (by unfold InI64;omega)
   have hsub:=QF.Sub (endW c.lift t) (brkW c.lift t) (by omega) (by omega)
   rw[allF]
   by_cases hn:t+1<c.lift.breaks.length
   ·obtain⟨v,hv⟩:∃v,c.lift.breaks[t+1]? = some v:=⟨_,List.getElem?_eq_getElem hn⟩
    have ev:v=mkR (endW c.lift t):=by
     unfold endW
     rw[hv,mkR_of (List.all_eq_true.1 gl.valid v (List.mem_of_getElem? hv))]
    rw[ev] at hv
    cases hb:posB (combL c.base.val byV (pcW c.lift t) f (pcW d t)) (lenW c.lift t) with
    |false=>exact cam_all.l20 c t _ _ _ _ _ _ _ _ _ _ _ ht hp hp' hcomb hone (by omega) hn hv (by assumption) hsub hpo hb
    |true=>exact cam_all.l21 c t _ _ _ _ _ _ _ _ _ _ _ ht hp hp' hcomb hone (by omega) hn hv (by assumption) hsub hpo hb (ih (t+1) (by omega))
   ·have ev:endW c.lift t=((1:Int):Rat):=by
     unfold endW
     rw[List.getElem?_eq_none (by omega)]
    rw[ev] at hsub
    have hpo':=hpo
    have el:lenW c.lift t=((1:Int):Rat)-brkW c.lift t:=by unfold lenW;rw[ev]
    rw[el] at hpo'
    cases hb:posB (combL c.base.val byV (pcW c.lift t) f (pcW d t)) (lenW c.lift t) with
    |false=>exact cam_all.l23 c t _ _ _ _ _ _ _ _ _ _ ht hp hp' hcomb hone (by omega) (by omega) (by assumption) hsub hpo' (by rw[←el];exact hb)
    |true=>exact cam_all.l24 c t _ _ _ _ _ _ _ _ _ _ ht hp hp' hcomb hone (by omega) (by omega) (by assumption) hsub hpo' (by rw[←el];exact hb) (ih (t+1) (by omega))
 exact loop _ 0 rfl
theorem all0{c:ACam}(g:GCam c){byV f:Rat}(hby:ht byV≤7)(hf:ht f≤4):Contract prg 126 [c.pv,(mkR byV).pv,(mkR f).pv,vI 0] (.tup [vB (allC c byV f c.lift),.nilI]) :=
 cam_all.e0 c _ _ _ (cam_all.l12 0 0 c _ _ _ (by omega) (all2 g hby hf (gder0 g)))
theorem all1{c:ACam}(g:GCam c){byV f:Rat}(hby:ht byV≤7)(hf:ht f≤4):Contract prg 126 [c.pv,(mkR byV).pv,(mkR f).pv,vI 1] (.tup [vB (allC c byV f (deriveW c.lift)),.nilI]):=by
 have hd:=CLw.Derive c.lift g.law (fitW_up g.fl (by omega))
 exact cam_all.e0 c _ _ _ (cam_all.l10 1 0 c _ _ _ _ (by omega) hd (by omega) (cam_all.l12 1 1 c _ _ _ (by omega) (all2 g hby hf (gder1 g))))
theorem all22{c:ACam}(g:GCam c){byV f:Rat}(hby:ht byV≤7)(hf:ht f≤4):Contract prg 126 [c.pv,(mkR byV).pv,(mkR f).pv,vI 2] (.tup [vB (allC c byV f (deriveW (deriveW c.lift))),.nilI]):=by
 have hd:=CLw.Derive c.lift g.law (fitW_up g.fl (by omega))
 have h1:=gder1 g
 have hd2:=CLw.Derive (deriveW c.lift) h1.good (fitW_up h1.fit (by omega))
 exact cam_all.e0 c _ _ _ (cam_all.l10 2 0 c _ _ _ _ (by omega) hd (by omega) (cam_all.l10 2 1 c _ _ _ _ (by omega) hd2 (by omega) (cam_all.l12 2 2 c _ _ _ (by omega) (all2 g hby hf (gder2 g)))))
theorem Positive{c:ACam}(g:GCam c):Contract prg 54 [c.pv] (.tup [vB (posC c),.nilI]) :=
 cam_Positive.e0 c _ _ none (check g) (CFr.Of 1 (by unfold InI64;omega)) (all0 (byV:=((1:Int):Rat)) (f:=0) g (by decide) (by decide))
theorem ht_byW{limit:Rat}(h:ht limit≤4):ht (byW limit)≤6:=by
 have p2:ht piLo≤1:=by decide
 have z2:ht (2:Rat)≤1:=by decide
 have m1:=ht_mul piLo limit
 have m2:=ht_mul 2 (piLo*limit)
 unfold byW;omega
theorem Within{c:ACam}(g:GCam c){limit:Rat}(hl:ht limit≤4)(h0:0<limit):Contract prg 55 [c.pv,(mkR limit).pv] (.tup [vB (withC c limit),.nilI]):=by
 have p2:ht piLo≤1:=by decide
 have z2:ht ((2:Int):Rat)≤1:=by decide
 have m1:=ht_mul piLo limit
 have hb:=ht_byW hl
 have a1:=all1 (byV:=byW limit) (f:=((-1:Int):Rat)) g (by omega) (by decide)
 have a2:=all1 (byV:=byW limit) (f:=((1:Int):Rat)) g (by omega) (by decide)
 have o1:=CFr.Of (-1) (by unfold InI64;omega)
 have o2:=CFr.Of 1 (by unfold InI64;omega)
 refine cam_Within.e2 c _ _ _ _ _ _ _ (check g) (QF.Valid limit (by omega)) rfl (QF.Sign limit (by omega)) (cmpR_gt.2 h0) (CFr.Of 2 (by unfold InI64;omega)) low (QF.Mul piLo limit (by omega) (by omega)) (QF.Mul ((2:Int):Rat) (piLo*limit) (by omega) (by omega)) ?_
 unfold withC
 cases h1:allC c (byW limit) (-1) (deriveW c.lift) with
 |false=>exact cam_Within.l10 0 c _ (-1) _ _ (by omega) rfl o1 a1 h1
 |true =>
  refine cam_Within.l11 0 c _ (-1) _ _ (by omega) rfl o1 a1 h1 (by omega) ?_
  cases h2:allC c (byW limit) 1 (deriveW c.lift) with
  |false=>exact cam_Within.l10 1 c _ 1 _ _ (by omega) rfl o2 a2 h2
  |true=>exact cam_Within.l11 1 c _ 1 _ _ (by omega) rfl o2 a2 h2 (by omega) (cam_Within.l13 2 c _ _ none (by omega) (Positive g))
theorem Convex{c:ACam}(g:GCam c):Contract prg 56 [c.pv] (.tup [vB (convC c),.nilI]):=by
 have s1:ht (sqP piHi)≤1:=by decide +kernel
 have s2:ht (sqP piLo)≤1:=by decide +kernel
 have a1:=all22 (byV:=((1:Int):Rat)) (f:=sqP piLo) g (by decide) (by omega)
 have a2:=all22 (byV:=((1:Int):Rat)) (f:=sqP piHi) g (by decide) (by omega)
 have o2:=CFr.Of 1 (by unfold InI64;omega)
 have q1:=square piLo (by decide) (by decide)
 have q2:=square piHi (by decide) (by decide)
 refine cam_Convex.e0 c _ _ (check g) low high ?_
 unfold convC
 cases h1:allC c 1 (sqP piLo) (deriveW (deriveW c.lift)) with
 |false=>exact cam_Convex.l10 0 c _ _ _ _ _ _ (by omega) rfl o2 q1 a1 h1
 |true =>
  refine cam_Convex.l11 0 c _ _ _ _ _ _ (by omega) rfl o2 q1 a1 h1 (by omega) ?_
  cases h2:allC c 1 (sqP piHi) (deriveW (deriveW c.lift)) with
  |false=>exact cam_Convex.l10 1 c _ _ _ _ _ _ (by omega) rfl o2 q2 a2 h2
  |true=>exact cam_Convex.l11 1 c _ _ _ _ _ _ (by omega) rfl o2 q2 a2 h2 (by omega) (cam_Convex.l13 2 c _ _ (by omega))
end CCa
end Go.Proofs.YtbgkjomonebfcaaGreat.Sym
namespace Go.Proofs.YtbgkjomonebfcaaGreat.Sym
open Go Path CInt
set_option linter.unusedVariables false
namespace CCr
theorem Check(c:ACam)(hf:FitW 1073741824 c.lift)(hb:c.base.num.length≤68719476736∧c.base.den.length≤68719476736):Contract prg 46 [c.pv] (vI (chkCam c)):=by
 have hk:=CRl.Check c.lift hf
 unfold chkCam
 by_cases h:chkLaw c.lift=0
 ·rw[if_pos h]
  have hv:=CRb.Valid c.base ⟨by omega,by omega⟩
  have hs:=CRb.Sign c.base ⟨by omega,by omega⟩
  cases hvb:c.base.valid with
  |false =>
   rw[if_neg (by intro e;cases e.1)]
   exact linkworkref53_Check.e1 c _ _ hk h hv hvb
  |true =>
   by_cases h0:0<c.base.val
   ·rw[if_pos ⟨rfl,h0⟩]
    exact linkworkref53_Check.e3 c _ _ _ hk h hv hvb hs (cmpR_gt.2 h0)
   ·rw[if_neg (by intro e;exact h0 e.2)]
    exact linkworkref53_Check.e2 c _ _ _ hk h hv hvb hs (cmpR_le.2 (by grind))
 ·rw[if_neg h]
  exact linkworkref53_Check.e0 c _ hk h
end CCr
end Go.Proofs.YtbgkjomonebfcaaGreat.Sym
namespace Go.Proofs.YtbgkjomonebfcaaGreat.Sym.Path
open Go
set_option maxRecDepth 20000
set_option linter.unusedVariables false
namespace linkworklaw53_CamShifts
theorem e1(c:ACam)(limit byV:ARat)(awa val awa1:Bool)(h1:Contract prg 40 [] (vB awa))(h2:awa=true)(h3:Contract prg 62 [c.pv] (vB val))(h4:val=false)(h5:Contract prg 40 [] (vB awa1)):Contract prg 14 [c.pv,limit.pv,byV.pv] (vB awa1) :=
 Contract.ofL Tryz.func14 (by kernel_rfl) (L.done mixed tabOk (n:=84) (ns:=[1,1,1,1,1,1,1,1,1,1,1,1,1,1,1,1,1,1,1,1,1]) (tr:=[.reg [],.reg [(.pv (vB awa)),.none,.none,.none,(.pv (vB val)),.none,(.dec false),.none,.skip,.skip,(.dec true),.none,.skip,.skip,.none,.none,.skip,.skip,.skip,.none,.none,.skip,.skip,.skip,.none,.none,.skip,.skip,.skip],.auto,.reg [(.pv (vB awa1))]]) (cj h1 (cj (bnot_f h2) (cj (bnot_f h2) (cj h3 (cj (bnot_f h2) (cj (bnot_f h2) (cj (bnot_t h4) (cj (bnot_t h4) (cj (bnot_t h4) (cj (Eq.refl true) (cj (Eq.refl true) (cj (Eq.refl true) (cj (Eq.refl true) (cj (Eq.refl true) (cj (Eq.refl true) (cj (Eq.refl true) (cj (Eq.refl true) (cj (Eq.refl true) (cj (Eq.refl true) (cj (Eq.refl true) (cj h5 True.intro))))))))))))))))))))) (by kernel_rfl))
theorem e2(c:ACam)(limit byV:ARat)(awa val lon awa1:Bool)(h1:Contract prg 40 [] (vB awa))(h2:awa=true)(h3:Contract prg 62 [c.pv] (vB val))(h4:val=true)(h5:Contract prg 42 [limit.pv] (vB lon))(h6:lon=true)(h7:Contract prg 40 [] (vB awa1)):Contract prg 14 [c.pv,limit.pv,byV.pv] (vB awa1) :=
 Contract.ofL Tryz.func14 (by kernel_rfl) (L.done mixed tabOk (n:=84) (ns:=[1,1,1,1,1,1,1,1,1,1,1,1,1,1,1,1,1,1,1,1,1,1,1]) (tr:=[.reg [],.reg [(.pv (vB awa)),.none,.none,.none,(.pv (vB val)),.none,(.dec false),.none,.none,(.pv (vB lon)),(.dec false),.none,.skip,.skip,(.dec true),.none,.skip,.skip,.skip,.none,.none,.skip,.skip,.skip,.none,.none,.skip,.skip,.skip],.auto,.reg [(.pv (vB awa1))]]) (cj h1 (cj (bnot_f h2) (cj (bnot_f h2) (cj h3 (cj (bnot_f h2) (cj (bnot_f h2) (cj (bnot_f h4) (cj (bnot_f h4) (cj h5 (cj (bnot_f h4) (cj h6 (cj h6 (cj h6 (cj (Eq.refl true) (cj (Eq.refl true) (cj (Eq.refl true) (cj (Eq.refl true) (cj (Eq.refl true) (cj (Eq.refl true) (cj (Eq.refl true) (cj (Eq.refl true) (cj (Eq.refl true) (cj h7 True.intro))))))))))))))))))))))) (by kernel_rfl))
theorem e3(c:ACam)(limit byV:ARat)(awa val lon lon1 awa1:Bool)(h1:Contract prg 40 [] (vB awa))(h2:awa=true)(h3:Contract prg 62 [c.pv] (vB val))(h4:val=true)(h5:Contract prg 42 [limit.pv] (vB lon))(h6:lon=false)(h7:Contract prg 42 [byV.pv] (vB lon1))(h8:lon1=true)(h9:Contract prg 40 [] (vB awa1)):Contract prg 14 [c.pv,limit.pv,byV.pv] (vB awa1) :=
 Contract.ofL Tryz.func14 (by kernel_rfl) (L.done mixed tabOk (n:=84) (ns:=[1,1,1,1,1,1,1,1,1,1,1,1,1,1,1,1,1,1,1,1,1,1,1,1,1]) (tr:=[.reg [],.reg [(.pv (vB awa)),.none,.none,.none,(.pv (vB val)),.none,(.dec false),.none,.none,(.pv (vB lon)),(.dec false),.none,.none,(.pv (vB lon1)),(.dec false),.none,.skip,.skip,.skip,(.dec true),.none,.skip,.skip,.skip,.none,.none,.skip,.skip,.skip],.auto,.reg [(.pv (vB awa1))]]) (cj h1 (cj (bnot_f h2) (cj (bnot_f h2) (cj h3 (cj (bnot_f h2) (cj (bnot_f h2) (cj (bnot_f h4) (cj (bnot_f h4) (cj h5 (cj (bnot_f h4) (cj h6 (cj h6 (cj h7 (cj h6 (cj h8 (cj h8 (cj h8 (cj h8 (cj (Eq.refl true) (cj (Eq.refl true) (cj (Eq.refl true) (cj (Eq.refl true) (cj (Eq.refl true) (cj (Eq.refl true) (cj h9 True.intro))))))))))))))))))))))))) (by kernel_rfl))
theorem e4(c:ACam)(limit byV:ARat)(awa val lon lon1 val1 awa1:Bool)(h1:Contract prg 40 [] (vB awa))(h2:awa=true)(h3:Contract prg 62 [c.pv] (vB val))(h4:val=true)(h5:Contract prg 42 [limit.pv] (vB lon))(h6:lon=false)(h7:Contract prg 42 [byV.pv] (vB lon1))(h8:lon1=false)(h9:Contract prg 48 [limit.pv] (vB val1))(h10:val1=false)(h11:Contract prg 40 [] (vB awa1)):Contract prg 14 [c.pv,limit.pv,byV.pv] (vB awa1) :=
 Contract.ofL Tryz.func14 (by kernel_rfl) (L.done mixed tabOk (n:=84) (ns:=[1,1,1,1,1,1,1,1,1,1,1,1,1,1,1,1,1,1,1,1,1,1,1,1,1,1,1]) (tr:=[.reg [],.reg [(.pv (vB awa)),.none,.none,.none,(.pv (vB val)),.none,(.dec false),.none,.none,(.pv (vB lon)),(.dec false),.none,.none,(.pv (vB lon1)),(.dec false),.none,.none,(.pv (vB val1)),.none,(.dec false),.none,.skip,.skip,.skip,(.dec true),.none,.skip,.skip,.skip],.auto,.reg [(.pv (vB awa1))]]) (cj h1 (cj (bnot_f h2) (cj (bnot_f h2) (cj h3 (cj (bnot_f h2) (cj (bnot_f h2) (cj (bnot_f h4) (cj (bnot_f h4) (cj h5 (cj (bnot_f h4) (cj h6 (cj h6 (cj h7 (cj h6 (cj h8 (cj h8 (cj h9 (cj h8 (cj h8 (cj (bnot_t h10) (cj (bnot_t h10) (cj (bnot_t h10) (cj (bnot_t h10) (cj (Eq.refl true) (cj (Eq.refl true) (cj (Eq.refl true) (cj h11 True.intro))))))))))))))))))))))))))) (by kernel_rfl))
theorem e5(c:ACam)(limit byV:ARat)(awa val lon lon1 val1:Bool)(sig:Int)(awa1:Bool)(h1:Contract prg 40 [] (vB awa))(h2:awa=true)(h3:Contract prg 62 [c.pv] (vB val))(h4:val=true)(h5:Contract prg 42 [limit.pv] (vB lon))(h6:lon=false)(h7:Contract prg 42 [byV.pv] (vB lon1))(h8:lon1=false)(h9:Contract prg 48 [limit.pv] (vB val1))(h10:val1=true)(h11:Contract prg 59 [limit.pv] (vI sig))(h12:sig≤0)(h13:Contract prg 40 [] (vB awa1)):Contract prg 14 [c.pv,limit.pv,byV.pv] (vB awa1) :=
 Contract.ofL Tryz.func14 (by kernel_rfl) (L.done mixed tabOk (n:=84) (ns:=[1,1,1,1,1,1,1,1,1,1,1,1,1,1,1,1,1,1,1,1,1,1,1,1,1,1,1,1,1]) (tr:=[.reg [],.reg [(.pv (vB awa)),.none,.none,.none,(.pv (vB val)),.none,(.dec false),.none,.none,(.pv (vB lon)),(.dec false),.none,.none,(.pv (vB lon1)),(.dec false),.none,.none,(.pv (vB val1)),.none,(.dec false),.none,.none,(.pv (vI sig)),.none,(.dec false),.none,.skip,.skip,.skip,(.dec true)],.auto,.reg [(.pv (vB awa1))]]) (cj h1 (cj (bnot_f h2) (cj (bnot_f h2) (cj h3 (cj (bnot_f h2) (cj (bnot_f h2) (cj (bnot_f h4) (cj (bnot_f h4) (cj h5 (cj (bnot_f h4) (cj h6 (cj h6 (cj h7 (cj h6 (cj h8 (cj h8 (cj h9 (cj h8 (cj h8 (cj (bnot_f h10) (cj (bnot_f h10) (cj h11 (cj (bnot_f h10) (cj (bnot_f h10) (cj (dle_t h12) (cj (dle_t h12) (cj (dle_t h12) (cj (dle_t h12) (cj h13 True.intro))))))))))))))))))))))))))))) (by kernel_rfl))
theorem e6(c:ACam)(limit byV:ARat)(awa val lon lon1 val1:Bool)(sig:Int)(val2 awa1:Bool)(h1:Contract prg 40 [] (vB awa))(h2:awa=true)(h3:Contract prg 62 [c.pv] (vB val))(h4:val=true)(h5:Contract prg 42 [limit.pv] (vB lon))(h6:lon=false)(h7:Contract prg 42 [byV.pv] (vB lon1))(h8:lon1=false)(h9:Contract prg 48 [limit.pv] (vB val1))(h10:val1=true)(h11:Contract prg 59 [limit.pv] (vI sig))(h12:0<sig)(h13:Contract prg 48 [byV.pv] (vB val2))(h14:val2=false)(h15:Contract prg 40 [] (vB awa1)):Contract prg 14 [c.pv,limit.pv,byV.pv] (vB awa1) :=
 Contract.ofL Tryz.func14 (by kernel_rfl) (L.done mixed tabOk (n:=84) (ns:=[1,1,1,1,1,1,1,1,1,1,1,1,1,1,1,1,1,1,1,1,1,1,1,1,1,1,1,1,1,1,1]) (tr:=[.reg [],.reg [(.pv (vB awa)),.none,.none,.none,(.pv (vB val)),.none,(.dec false),.none,.none,(.pv (vB lon)),(.dec false),.none,.none,(.pv (vB lon1)),(.dec false),.none,.none,(.pv (vB val1)),.none,(.dec false),.none,.none,(.pv (vI sig)),.none,(.dec false),.none,.none,(.pv (vB val2)),.none,(.dec false)],.dec true,.reg [(.pv (vB awa1))]]) (cj h1 (cj (bnot_f h2) (cj (bnot_f h2) (cj h3 (cj (bnot_f h2) (cj (bnot_f h2) (cj (bnot_f h4) (cj (bnot_f h4) (cj h5 (cj (bnot_f h4) (cj h6 (cj h6 (cj h7 (cj h6 (cj h8 (cj h8 (cj h9 (cj h8 (cj h8 (cj (bnot_f h10) (cj (bnot_f h10) (cj h11 (cj (bnot_f h10) (cj (bnot_f h10) (cj (dle_f h12) (cj (dle_f h12) (cj h13 (cj (dle_f h12) (cj (dle_f h12) (cj (bnot_t h14) (cj h15 True.intro))))))))))))))))))))))))))))))) (by kernel_rfl))
theorem e7(c:ACam)(limit byV:ARat)(awa val lon lon1 val1:Bool)(sig:Int)(val2:Bool)(shi:ALaw)(che:Int)(pos pos2 wit wit2 con con2:Bool)(h1:Contract prg 40 [] (vB awa))(h2:awa=true)(h3:Contract prg 62 [c.pv] (vB val))(h4:val=true)(h5:Contract prg 42 [limit.pv] (vB lon))(h6:lon=false)(h7:Contract prg 42 [byV.pv] (vB lon1))(h8:lon1=false)(h9:Contract prg 48 [limit.pv] (vB val1))(h10:val1=true)(h11:Contract prg 59 [limit.pv] (vI sig))(h12:0<sig)(h13:Contract prg 48 [byV.pv] (vB val2))(h14:val2=true)(h15:Contract prg 67 [c.lift.pv,byV.pv] (.tup [shi.pv,.nilI]))(h16:Contract prg 68 [shi.pv] (vI che))(h17:che=0)(h18:Contract prg 54 [c.pv] (.tup [(vB pos),.nilI]))(h19:Contract prg 54 [(⟨c.base,shi⟩:ACam).pv] (.tup [(vB pos2),.nilI]))(h20:Contract prg 55 [c.pv,limit.pv] (.tup [(vB wit),.nilI]))(h21:Contract prg 55 [(⟨c.base,shi⟩:ACam).pv,limit.pv] (.tup [(vB wit2),.nilI]))(h22:Contract prg 56 [c.pv] (.tup [(vB con),.nilI]))(h23:Contract prg 56 [(⟨c.base,shi⟩:ACam).pv] (.tup [(vB con2),.nilI]))(h24:pos=pos2)(h25:wit=wit2):Contract prg 14 [c.pv,limit.pv,byV.pv] (vB (con==con2)) :=
 Contract.ofL Tryz.func14 (by kernel_rfl) (L.done mixed tabOk (n:=165) (ns:=[1,1,1,1,1,1,1,1,1,1,1,1,1,1,1,1,1,1,1,1,1,1,1,1,1,1,1,1,1,1,1,1,1,1,1,1,1,1,1,1,1,1,1,1,1,1,1,1,1,1,1,1,1,1,1,1,1,1,1,1]) (tr:=[.reg [],.reg [(.pv (vB awa)),.none,.none,.none,(.pv (vB val)),.none,(.dec false),.none,.none,(.pv (vB lon)),(.dec false),.none,.none,(.pv (vB lon1)),(.dec false),.none,.none,(.pv (vB val1)),.none,(.dec false),.none,.none,(.pv (vI sig)),.none,(.dec false),.none,.none,(.pv (vB val2)),.none,(.dec false)],.dec false,.reg [.none,.none,.none,(.pv (.tup [shi.pv,.nilI]))],.reg [],.auto,.reg [.none,(.pv (vI che))],.dec false,.reg [],.reg [.none,(.pv (.tup [(vB pos),.nilI]))],.reg [.none,(.pv (.tup [(vB pos2),.nilI]))],.reg [.none,.none,(.pv (.tup [(vB wit),.nilI]))],.reg [.none,.none,(.pv (.tup [(vB wit2),.nilI]))],.reg [.none,(.pv (.tup [(vB con),.nilI]))],.reg [.none,(.pv (.tup [(vB con2),.nilI]))],.reg [.none,.none,.none,.none,.none,.none,.none,.none,.none,.none,.none,.none,.none,.none,.none,.none,.none,.none,.none,.none,.none,.none,.none,.none,.none,.none,.none,.none,.none,.none,.none,(.dec true),.none,.none,.none,.none,(.dec true)]]) (cj h1 (cj (bnot_f h2) (cj (bnot_f h2) (cj h3 (cj (bnot_f h2) (cj (bnot_f h2) (cj (bnot_f h4) (cj (bnot_f h4) (cj h5 (cj (bnot_f h4) (cj h6 (cj h6 (cj h7 (cj h6 (cj h8 (cj h8 (cj h9 (cj h8 (cj h8 (cj (bnot_f h10) (cj (bnot_f h10) (cj h11 (cj (bnot_f h10) (cj (bnot_f h10) (cj (dle_f h12) (cj (dle_f h12) (cj h13 (cj (dle_f h12) (cj (dle_f h12) (cj (bnot_f h14) (cj h15 (cj h16 (cj (dne_f h17) (cj h18 (cj h19 (cj h20 (cj h21 (cj h22 (cj h23 (cj (Eq.refl true) (cj (Eq.refl true) (cj (Eq.refl true) (cj (Eq.refl true) (cj (Eq.refl true) (cj (Eq.refl true) (cj (Eq.refl true) (cj (Eq.refl true) (cj (Eq.refl true) (cj (Eq.refl true) (cj (Eq.refl true) (cj (Eq.refl true) (cj (Eq.refl true) (cj (beq_t h24) (cj (beq_t h24) (cj (beq_t h24) (cj (beq_t h24) (cj (beq_t h25) (cj (beq_t h25) (cj (beq_t h25) (cj (beq_t h25) True.intro)))))))))))))))))))))))))))))))))))))))))))))))))))))))))))) (by kernel_rfl))
theorem e8(c:ACam)(limit byV:ARat)(awa val lon lon1 val1:Bool)(sig:Int)(val2:Bool)(shi:ALaw)(shi1:Int)(isV:Bool)(h1:Contract prg 40 [] (vB awa))(h2:awa=true)(h3:Contract prg 62 [c.pv] (vB val))(h4:val=true)(h5:Contract prg 42 [limit.pv] (vB lon))(h6:lon=false)(h7:Contract prg 42 [byV.pv] (vB lon1))(h8:lon1=false)(h9:Contract prg 48 [limit.pv] (vB val1))(h10:val1=true)(h11:Contract prg 59 [limit.pv] (vI sig))(h12:0<sig)(h13:Contract prg 48 [byV.pv] (vB val2))(h14:val2=true)(h15:Contract prg 67 [c.lift.pv,byV.pv] (.tup [shi.pv,(.iface 94 (vI shi1))]))(h16:Contract prg 60 [(.iface 94 (vI shi1)),(vI 4)] (vB isV)):Contract prg 14 [c.pv,limit.pv,byV.pv] (vB isV) :=
 Contract.ofL Tryz.func14 (by kernel_rfl) (L.done mixed tabOk (n:=105) (ns:=[1,1,1,1,1,1,1,1,1,1,1,1,1,1,1,1,1,1,1,1,1,1,1,1,1,1,1,1,1,1,1,1]) (tr:=[.reg [],.reg [(.pv (vB awa)),.none,.none,.none,(.pv (vB val)),.none,(.dec false),.none,.none,(.pv (vB lon)),(.dec false),.none,.none,(.pv (vB lon1)),(.dec false),.none,.none,(.pv (vB val1)),.none,(.dec false),.none,.none,(.pv (vI sig)),.none,(.dec false),.none,.none,(.pv (vB val2)),.none,(.dec false)],.dec false,.reg [.none,.none,.none,(.pv (.tup [shi.pv,(.iface 94 (vI shi1))]))],.reg [],.auto,.reg [.none,(.pv (vB isV))]]) (cj h1 (cj (bnot_f h2) (cj (bnot_f h2) (cj h3 (cj (bnot_f h2) (cj (bnot_f h2) (cj (bnot_f h4) (cj (bnot_f h4) (cj h5 (cj (bnot_f h4) (cj h6 (cj h6 (cj h7 (cj h6 (cj h8 (cj h8 (cj h9 (cj h8 (cj h8 (cj (bnot_f h10) (cj (bnot_f h10) (cj h11 (cj (bnot_f h10) (cj (bnot_f h10) (cj (dle_f h12) (cj (dle_f h12) (cj h13 (cj (dle_f h12) (cj (dle_f h12) (cj (bnot_f h14) (cj h15 (cj h16 True.intro)))))))))))))))))))))))))))))))) (by kernel_rfl))
end linkworklaw53_CamShifts
namespace linkworklaw53_awake
theorem e0(exa:ACam)(pre:ARange)(exa1:ACam)(con:Bool)(par:ARat)(rat:Bool)(par1:ARat)(rat1:Bool)(h1:Contract prg 104 [] exa.pv)(h2:Contract prg 44 [exa.pv,(⟨false,[],[]⟩:ARat).pv] (.tup [pre.pv,.nilI]))(h3:Contract prg 104 [] exa1.pv)(h4:Contract prg 56 [exa1.pv] (.tup [(vB con),.nilI]))(h5:con=true)(h6:Contract prg 105 [(vI 113),(vI 710)] par.pv)(h7:Contract prg 49 [pre.lo.pv,par.pv] (vB rat))(h8:rat=true)(h9:Contract prg 105 [(vI 53),(vI 333)] par1.pv)(h10:Contract prg 49 [pre.hi.pv,par1.pv] (vB rat1)):Contract prg 40 [] (vB rat1) :=
 Contract.ofL Tryz.func40 (by kernel_rfl) (L.done mixed tabOk (n:=84) (ns:=[1,1,1,1,1,1,1,1,1,1,1,1,1,1,1,1,1,1,1,1,1]) (tr:=[.reg [],.reg [(.pv exa.pv),.none,(.pv (.tup [pre.pv,.nilI]))],.reg [(.pv exa1.pv),(.pv (.tup [(vB con),.nilI]))],dr 21 1 [.none,.none,.none,.none,.none,.none,.none,.none,.none,.none,.none,.none,(.pv par.pv),(.pv (vB rat)),(.dec true),.none,.none,.none,(.pv par1.pv),(.pv (vB rat1)),(.dec true)]]) (cj h1 (cj h2 (cj h3 (cj h4 (cj (Eq.refl true) (cj (Eq.refl true) (cj (Eq.refl true) (cj h5 (cj h5 (cj h5 (cj h6 (cj h5 (cj h7 (cj h5 (cj h8 (cj h8 (cj h8 (cj h9 (cj h8 (cj h10 (cj h8 True.intro))))))))))))))))))))) (by kernel_rfl))
end linkworklaw53_awake
namespace linkworklaw53_large
@[reducible] noncomputable def fn:Func:=Tryz.f41
noncomputable def atK1:List Itm:=focus [0,2,0,2,0,0,2,1,2,0,0,2,0,0] [.code (bodyOf fn)]
def inv1(i_4:Nat)(c:ACam):St:=⟨[(3,(.ptr 3 0)),(4,(eI (i_4:Int)))],[(3,(.lit [(.pv (polyPV c.lift.breaks)),(.pv (lpv (lcell ARat.cells) c.lift.pieces))]))]⟩
@[reducible] noncomputable def Loop1(i_4:Nat)(c:ACam)(r:PV):Prop:=L prg fn atK1 (inv1 i_4 c) r
noncomputable def atK2:List Itm:=focus [0,2,0,2,0,0,2,1,2,0,0,2,0,0,0,0,0,2,1,2,2,2,2,0,0,2,0,0] [.code (bodyOf fn)]
def inv2(i_5:Nat)(c:ACam):St:=⟨[(3,(.ptr 3 0)),(5,(eI (i_5:Int)))],[(3,(.lit [(.pv (polyPV c.lift.breaks)),(.pv (lpv (lcell ARat.cells) c.lift.pieces))]))]⟩
@[reducible] noncomputable def Loop2(i_5:Nat)(c:ACam)(r:PV):Prop:=L prg fn atK2 (inv2 i_5 c) r
noncomputable def atK3:List Itm:=focus [0,2,0,2,0,0,2,1,2,0,0,2,0,0,0,0,0,2,1,2,2,2,2,0,0,2,0,0,0,0,0,2,0,2,0,0,0,0,2,1,2,0,2,0,0] [.code (bodyOf fn)]
def inv3(i_5 k_6:Nat)(c:ACam):St:=⟨[(3,(.ptr 3 0)),(5,(eI (i_5:Int))),(6,(eI (k_6:Int)))],[(3,(.lit [(.pv (polyPV c.lift.breaks)),(.pv (lpv (lcell ARat.cells) c.lift.pieces))]))]⟩
@[reducible] noncomputable def Loop3(i_5 k_6:Nat)(c:ACam)(r:PV):Prop:=L prg fn atK3 (inv3 i_5 k_6 c) r
theorem e0(c:ACam)(lon:Bool)(h1:Contract prg 42 [c.base.pv] (vB lon))(h2:lon=true):Contract prg 41 [c.pv] (vB true) :=
 Contract.ofL Tryz.func41 (by kernel_rfl) (L.done mixed tabOk (n:=90) (ns:=[1,1,1,1,1,1,1,1,1,1,1,1,1,1,1,1]) (tr:=[.reg [],.reg [],.reg [.none,.none,(.pv (vB lon)),.none,.skip,.skip,.skip,.skip,(.dec true),.none,.skip,.skip,.skip,.skip,.none,.none,.skip,.skip,.skip,.skip,.skip,.skip,.skip,.skip,.skip,.skip],.auto,.reg []]) (cj h1 (cj h2 (cj h2 (cj h2 (cj h2 (cj h2 (cj (Eq.refl true) (cj (Eq.refl true) (cj (Eq.refl true) (cj (Eq.refl true) (cj (Eq.refl true) (cj (Eq.refl true) (cj (Eq.refl true) (cj (Eq.refl true) (cj (Eq.refl true) (cj (Eq.refl true) True.intro)))))))))))))))) (by kernel_rfl))
theorem e1(c:ACam)(lon:Bool)(h1:Contract prg 42 [c.base.pv] (vB lon))(h2:lon=false)(h3:40<c.lift.breaks.length):Contract prg 41 [c.pv] (vB true) :=
 Contract.ofL Tryz.func41 (by kernel_rfl) (L.done mixed tabOk (n:=90) (ns:=[1,1,1,1,1,1,1,1,1,1,1,1,1,1,1,1,1,1]) (tr:=[.reg [],.reg [],.reg [.none,.none,(.pv (vB lon)),.none,.none,.none,(iI (c.lift.breaks.length:Int)),.none,(.dec false),.none,.skip,.skip,.skip,.skip,(.dec true),.none,.skip,.skip,.skip,.skip,.skip,.skip,.skip,.skip,.skip,.skip],.auto,.reg []]) (cj h1 (cj h2 (cj h2 (cj h2 (cj (o_len ARat.cells c.lift.breaks) (cj h2 (cj h2 (cj (dltN_t h3) (cj (dltN_t h3) (cj (dltN_t h3) (cj (dltN_t h3) (cj (dltN_t h3) (cj (Eq.refl true) (cj (Eq.refl true) (cj (Eq.refl true) (cj (Eq.refl true) (cj (Eq.refl true) (cj (Eq.refl true) True.intro)))))))))))))))))) (by kernel_rfl))
theorem e2(c:ACam)(lon:Bool)(h1:Contract prg 42 [c.base.pv] (vB lon))(h2:lon=false)(h3:c.lift.breaks.length≤40)(h4:40<c.lift.pieces.length):Contract prg 41 [c.pv] (vB true) :=
 Contract.ofL Tryz.func41 (by kernel_rfl) (L.done mixed tabOk (n:=90) (ns:=[1,1,1,1,1,1,1,1,1,1,1,1,1,1,1,1,1,1,1,1]) (tr:=[.reg [],.reg [],.reg [.none,.none,(.pv (vB lon)),.none,.none,.none,(iI (c.lift.breaks.length:Int)),.none,(.dec false),.none,.none,.none,(iI (c.lift.pieces.length:Int)),.none,(.dec false),.none,.skip,.skip,.skip,.skip,.skip,.skip,.skip,.skip,.skip,.skip,(.dec true)],.auto,.reg []]) (cj h1 (cj h2 (cj h2 (cj h2 (cj (o_len ARat.cells c.lift.breaks) (cj h2 (cj h2 (cj (dltN_f h3) (cj (dltN_f h3) (cj (dltN_f h3) (cj (o_len (lcell ARat.cells) c.lift.pieces) (cj (dltN_f h3) (cj (dltN_f h3) (cj (dltN_t h4) (cj (dltN_t h4) (cj (dltN_t h4) (cj (dltN_t h4) (cj (dltN_t h4) (cj (dltN_t h4) (cj (dltN_t h4) True.intro)))))))))))))))))))) (by kernel_rfl))
theorem e3(c:ACam)(lon:Bool)(h1:Contract prg 42 [c.base.pv] (vB lon))(h2:lon=false)(h3:c.lift.breaks.length≤40)(h4:c.lift.pieces.length≤40)(h5:5<c.lift.pieces.length)(h6:c.lift.pieces.length≤16):Contract prg 41 [c.pv] (vB true) :=
 Contract.ofL Tryz.func41 (by kernel_rfl) (L.done mixed tabOk (n:=90) (ns:=[1,1,1,1,1,1,1,1,1,1,1,1,1,1,1,1,1,1,1,1,1,1,1,1,1,1,1,1]) (tr:=[.reg [],.reg [],.reg [.none,.none,(.pv (vB lon)),.none,.none,.none,(iI (c.lift.breaks.length:Int)),.none,(.dec false),.none,.none,.none,(iI (c.lift.pieces.length:Int)),.none,(.dec false),.none,.none,.none,(iI (c.lift.pieces.length:Int)),.none,.none,.none,.none,(iI (c.lift.pieces.length:Int)),.none,(.dec true),(.dec false)],.dec true,.reg []]) (cj h1 (cj h2 (cj h2 (cj h2 (cj (o_len ARat.cells c.lift.breaks) (cj h2 (cj h2 (cj (dltN_f h3) (cj (dltN_f h3) (cj (dltN_f h3) (cj (o_len (lcell ARat.cells) c.lift.pieces) (cj (dltN_f h3) (cj (dltN_f h3) (cj (dltN_f h4) (cj (dltN_f h4) (cj (dltN_f h4) (cj (o_len (lcell ARat.cells) c.lift.pieces) (cj (dltN_f h4) (cj (dltN_f h4) (cj (dltN_t h5) (cj (dltN_t h5) (cj (dltN_t h5) (cj (o_len (lcell ARat.cells) c.lift.pieces) (cj (dltN_t h5) (cj (dltN_f h4) (cj (dltN_t h5) (cj (dltN_f h4) (cj (dleN_t h6) True.intro)))))))))))))))))))))))))))) (by kernel_rfl))
theorem e4(c:ACam)(lon:Bool){r:PV}(h1:Contract prg 42 [c.base.pv] (vB lon))(h2:lon=false)(h3:c.lift.breaks.length≤40)(h4:c.lift.pieces.length≤40)(h5:5<c.lift.pieces.length)(h6:16<c.lift.pieces.length)(hL:Loop1 0 c r):Contract prg 41 [c.pv] r :=
 Contract.ofL Tryz.func41 (by kernel_rfl) (L.go mixed tabOk (n:=102) (ns:=[1,1,1,1,1,1,1,1,1,1,1,1,1,1,1,1,1,1,1,1,1,1,1,1,1,1,1,1]) (tr:=[.reg [],.reg [],.reg [.none,.none,(.pv (vB lon)),.none,.none,.none,(iI (c.lift.breaks.length:Int)),.none,(.dec false),.none,.none,.none,(iI (c.lift.pieces.length:Int)),.none,(.dec false),.none,.none,.none,(iI (c.lift.pieces.length:Int)),.none,.none,.none,.none,(iI (c.lift.pieces.length:Int)),.none,(.dec true),(.dec false)],.dec false,.reg [],.keep [3,4],.drop [1]]) (cj h1 (cj h2 (cj h2 (cj h2 (cj (o_len ARat.cells c.lift.breaks) (cj h2 (cj h2 (cj (dltN_f h3) (cj (dltN_f h3) (cj (dltN_f h3) (cj (o_len (lcell ARat.cells) c.lift.pieces) (cj (dltN_f h3) (cj (dltN_f h3) (cj (dltN_f h4) (cj (dltN_f h4) (cj (dltN_f h4) (cj (o_len (lcell ARat.cells) c.lift.pieces) (cj (dltN_f h4) (cj (dltN_f h4) (cj (dltN_t h5) (cj (dltN_t h5) (cj (dltN_t h5) (cj (o_len (lcell ARat.cells) c.lift.pieces) (cj (dltN_t h5) (cj (dltN_f h4) (cj (dltN_t h5) (cj (dltN_f h4) (cj (dleN_f h6) True.intro)))))))))))))))))))))))))))) (by kernel_rfl) hL)
theorem e5(c:ACam)(lon:Bool){r:PV}(h1:Contract prg 42 [c.base.pv] (vB lon))(h2:lon=false)(h3:c.lift.breaks.length≤40)(h4:c.lift.pieces.length≤40)(h5:c.lift.pieces.length≤5)(hL:Loop1 0 c r):Contract prg 41 [c.pv] r :=
 Contract.ofL Tryz.func41 (by kernel_rfl) (L.go mixed tabOk (n:=102) (ns:=[1,1,1,1,1,1,1,1,1,1,1,1,1,1,1,1,1,1,1,1,1,1,1,1,1,1]) (tr:=[.reg [],.reg [],.reg [.none,.none,(.pv (vB lon)),.none,.none,.none,(iI (c.lift.breaks.length:Int)),.none,(.dec false),.none,.none,.none,(iI (c.lift.pieces.length:Int)),.none,(.dec false),.none,.none,.none,(iI (c.lift.pieces.length:Int)),.none,.none,.skip,.skip,.skip,.skip,(.dec false),(.dec false)],.auto,.reg [],.keep [3,4],.drop [1]]) (cj h1 (cj h2 (cj h2 (cj h2 (cj (o_len ARat.cells c.lift.breaks) (cj h2 (cj h2 (cj (dltN_f h3) (cj (dltN_f h3) (cj (dltN_f h3) (cj (o_len (lcell ARat.cells) c.lift.pieces) (cj (dltN_f h3) (cj (dltN_f h3) (cj (dltN_f h4) (cj (dltN_f h4) (cj (dltN_f h4) (cj (o_len (lcell ARat.cells) c.lift.pieces) (cj (dltN_f h4) (cj (dltN_f h4) (cj (dltN_f h5) (cj (dltN_f h5) (cj (dltN_f h5) (cj (dltN_f h5) (cj (dltN_f h4) (cj (dltN_f h5) (cj (dltN_f h4) True.intro)))))))))))))))))))))))))) (by kernel_rfl) hL)
theorem l10(i_4:Nat)(c:ACam)(v:ARat)(lon:Bool)(h1:i_4<c.lift.breaks.length)(h2:c.lift.breaks[i_4]? = some v)(h3:Contract prg 42 [v.pv] (vB lon))(h4:lon=true):Loop1 i_4 c (vB true) :=
 L.done mixed tabOk (n:=141) (ns:=[1,1,3,1,1]) (tr:=[.auto,.reg [.none,.none,.none,(iI (c.lift.breaks.length:Int))],.dec true,.reg [.none,.none,.none,(.row i_4 (ARat.cells v)),.none,(.pv (vB lon))],.dec true,.reg []]) (cj (o_len ARat.cells c.lift.breaks) (cj (dltN_t h1) (cj (o_at ARat.cells (Eq.refl (((i_4:Nat):Int):Int)) h2) (cj h3 (cj h4 True.intro))))) (by kernel_rfl)
theorem l11(i_4:Nat)(c:ACam)(v:ARat)(lon:Bool){r:PV}(h1:i_4<c.lift.breaks.length)(h2:c.lift.breaks[i_4]? = some v)(h3:Contract prg 42 [v.pv] (vB lon))(h4:lon=false)(h5:(i_4+1)<9223372036854775808)(hL:Loop1 (i_4+1) c r):Loop1 i_4 c r :=
 L.go mixed tabOk (n:=144) (ns:=[1,1,3,1,1,1]) (tr:=[.auto,.reg [.none,.none,.none,(iI (c.lift.breaks.length:Int))],.dec true,.reg [.none,.none,.none,(.row i_4 (ARat.cells v)),.none,(.pv (vB lon))],.dec false,.reg [.none,(iI (((i_4+1):Nat):Int))],.keep [3,4]]) (cj (o_len ARat.cells c.lift.breaks) (cj (dltN_t h1) (cj (o_at ARat.cells (Eq.refl (((i_4:Nat):Int):Int)) h2) (cj h3 (cj h4 (cj (bs_addN h5) True.intro)))))) (by kernel_rfl) hL
theorem l12(i_4:Nat)(c:ACam){r:PV}(h1:c.lift.breaks.length≤i_4)(hL:Loop2 0 c r):Loop1 i_4 c r :=
 L.go mixed tabOk (n:=144) (ns:=[1,1]) (tr:=[.auto,.reg [.none,.none,.none,(iI (c.lift.breaks.length:Int))],.dec false,.reg [],.keep [3,5]]) (cj (o_len ARat.cells c.lift.breaks) (cj (dltN_f h1) True.intro)) (by kernel_rfl) hL
theorem l20(i_5:Nat)(c:ACam)(v:List ARat)(h1:i_5<c.lift.pieces.length)(h2:c.lift.pieces[i_5]? = some v)(h3:6<v.length)(h4:v.length≤9):Loop2 i_5 c (vB true) :=
 L.done mixed tabOk (n:=186) (ns:=[1,1,3,1,1,1,1,1,3,1,1,1,1,1,1,1,1,1,1,1,1,1]) (tr:=[.auto,.reg [.none,.none,.none,(iI (c.lift.pieces.length:Int))],.dec true,.reg [.none,.none,.none,(.row i_5 ((lcell ARat.cells) v)),.none,(iI (v.length:Int)),.none,.none,.none,.none,.none,(.row i_5 ((lcell ARat.cells) v)),.none,(iI (v.length:Int)),.none,(.dec true),.none,.skip,.skip,.skip,.skip,.skip,.skip,.skip,(.dec true)],.auto,.reg []]) (cj (o_len (lcell ARat.cells) c.lift.pieces) (cj (dltN_t h1) (cj (o_at (lcell ARat.cells) (Eq.refl (((i_5:Nat):Int):Int)) h2) (cj (o_len ARat.cells v) (cj (dltN_t h3) (cj (dltN_t h3) (cj (dltN_t h3) (cj (dltN_t h3) (cj (o_at (lcell ARat.cells) (Eq.refl (((i_5:Nat):Int):Int)) h2) (cj (dltN_t h3) (cj (dltN_t h3) (cj (o_len ARat.cells v) (cj (dltN_t h3) (cj (dltN_t h3) (cj (dleN_t h4) (cj (dleN_t h4) (cj (dleN_t h4) (cj (dleN_t h4) (cj (dleN_t h4) (cj (dleN_t h4) (cj (dleN_t h4) (cj (dleN_t h4) True.intro)))))))))))))))))))))) (by kernel_rfl)
theorem l21(i_5:Nat)(c:ACam)(v:List ARat)(h1:i_5<c.lift.pieces.length)(h2:c.lift.pieces[i_5]? = some v)(h3:6<v.length)(h4:9<v.length)(h5:80<v.length):Loop2 i_5 c (vB true) :=
 L.done mixed tabOk (n:=186) (ns:=[1,1,3,1,1,1,1,1,3,1,1,1,1,1,1,1,1,1,3,1,1,1,1,1,1]) (tr:=[.auto,.reg [.none,.none,.none,(iI (c.lift.pieces.length:Int))],.dec true,.reg [.none,.none,.none,(.row i_5 ((lcell ARat.cells) v)),.none,(iI (v.length:Int)),.none,.none,.none,.none,.none,(.row i_5 ((lcell ARat.cells) v)),.none,(iI (v.length:Int)),.none,(.dec true),.none,.none,.none,.none,(.row i_5 ((lcell ARat.cells) v)),.none,(iI (v.length:Int)),.none,(.dec false)],.dec true,.reg []]) (cj (o_len (lcell ARat.cells) c.lift.pieces) (cj (dltN_t h1) (cj (o_at (lcell ARat.cells) (Eq.refl (((i_5:Nat):Int):Int)) h2) (cj (o_len ARat.cells v) (cj (dltN_t h3) (cj (dltN_t h3) (cj (dltN_t h3) (cj (dltN_t h3) (cj (o_at (lcell ARat.cells) (Eq.refl (((i_5:Nat):Int):Int)) h2) (cj (dltN_t h3) (cj (dltN_t h3) (cj (o_len ARat.cells v) (cj (dltN_t h3) (cj (dltN_t h3) (cj (dleN_f h4) (cj (dleN_f h4) (cj (dleN_f h4) (cj (dleN_f h4) (cj (o_at (lcell ARat.cells) (Eq.refl (((i_5:Nat):Int):Int)) h2) (cj (dleN_f h4) (cj (dleN_f h4) (cj (o_len ARat.cells v) (cj (dleN_f h4) (cj (dleN_f h4) (cj (dltN_t h5) True.intro))))))))))))))))))))))))) (by kernel_rfl)
theorem l22(i_5:Nat)(c:ACam)(v:List ARat){r:PV}(h1:i_5<c.lift.pieces.length)(h2:c.lift.pieces[i_5]? = some v)(h3:6<v.length)(h4:9<v.length)(h5:v.length≤80)(hL:Loop3 i_5 0 c r):Loop2 i_5 c r :=
 L.go mixed tabOk (n:=195) (ns:=[1,1,3,1,1,1,1,1,3,1,1,1,1,1,1,1,1,1,3,1,1,1,1,1,1]) (tr:=[.auto,.reg [.none,.none,.none,(iI (c.lift.pieces.length:Int))],.dec true,.reg [.none,.none,.none,(.row i_5 ((lcell ARat.cells) v)),.none,(iI (v.length:Int)),.none,.none,.none,.none,.none,(.row i_5 ((lcell ARat.cells) v)),.none,(iI (v.length:Int)),.none,(.dec true),.none,.none,.none,.none,(.row i_5 ((lcell ARat.cells) v)),.none,(iI (v.length:Int)),.none,(.dec false)],.dec false,.reg [],.keep [3,5,6]]) (cj (o_len (lcell ARat.cells) c.lift.pieces) (cj (dltN_t h1) (cj (o_at (lcell ARat.cells) (Eq.refl (((i_5:Nat):Int):Int)) h2) (cj (o_len ARat.cells v) (cj (dltN_t h3) (cj (dltN_t h3) (cj (dltN_t h3) (cj (dltN_t h3) (cj (o_at (lcell ARat.cells) (Eq.refl (((i_5:Nat):Int):Int)) h2) (cj (dltN_t h3) (cj (dltN_t h3) (cj (o_len ARat.cells v) (cj (dltN_t h3) (cj (dltN_t h3) (cj (dleN_f h4) (cj (dleN_f h4) (cj (dleN_f h4) (cj (dleN_f h4) (cj (o_at (lcell ARat.cells) (Eq.refl (((i_5:Nat):Int):Int)) h2) (cj (dleN_f h4) (cj (dleN_f h4) (cj (o_len ARat.cells v) (cj (dleN_f h4) (cj (dleN_f h4) (cj (dltN_f h5) True.intro))))))))))))))))))))))))) (by kernel_rfl) hL
theorem l24(i_5:Nat)(c:ACam)(v:List ARat){r:PV}(h1:i_5<c.lift.pieces.length)(h2:c.lift.pieces[i_5]? = some v)(h3:v.length≤6)(h4:v.length≤80)(hL:Loop3 i_5 0 c r):Loop2 i_5 c r :=
 L.go mixed tabOk (n:=195) (ns:=[1,1,3,1,1,1,1,1,1,1,1,1,1,1,1,1,3,1,1,1,1,1]) (tr:=[.auto,.reg [.none,.none,.none,(iI (c.lift.pieces.length:Int))],.dec true,.reg [.none,.none,.none,(.row i_5 ((lcell ARat.cells) v)),.none,(iI (v.length:Int)),.none,.none,.skip,.skip,.skip,.skip,.skip,.skip,.skip,(.dec false),.none,.none,.none,.none,(.row i_5 ((lcell ARat.cells) v)),.none,(iI (v.length:Int))],.dec false,.reg [],.keep [3,5,6]]) (cj (o_len (lcell ARat.cells) c.lift.pieces) (cj (dltN_t h1) (cj (o_at (lcell ARat.cells) (Eq.refl (((i_5:Nat):Int):Int)) h2) (cj (o_len ARat.cells v) (cj (dltN_f h3) (cj (dltN_f h3) (cj (dltN_f h3) (cj (dltN_f h3) (cj (dltN_f h3) (cj (dltN_f h3) (cj (dltN_f h3) (cj (dltN_f h3) (cj (Eq.refl false) (cj (Eq.refl false) (cj (Eq.refl false) (cj (Eq.refl false) (cj (o_at (lcell ARat.cells) (Eq.refl (((i_5:Nat):Int):Int)) h2) (cj (Eq.refl false) (cj (Eq.refl false) (cj (o_len ARat.cells v) (cj (Eq.refl false) (cj (dltN_f h4) True.intro)))))))))))))))))))))) (by kernel_rfl) hL
theorem l25(i_5:Nat)(c:ACam)(h1:c.lift.pieces.length≤i_5):Loop2 i_5 c (vB false) :=
 L.done mixed tabOk (n:=177) (ns:=[1,1]) (tr:=[.auto,.reg [.none,.none,.none,(iI (c.lift.pieces.length:Int))],.dec false,.reg []]) (cj (o_len (lcell ARat.cells) c.lift.pieces) (cj (dltN_f h1) True.intro)) (by kernel_rfl)
theorem l30(i_5 k_6:Nat)(c:ACam)(v:List ARat)(v1:ARat)(lon:Bool)(h1:c.lift.pieces[i_5]? = some v)(h2:k_6<v.length)(h3:v[k_6]? = some v1)(h4:Contract prg 42 [v1.pv] (vB lon))(h5:lon=true):Loop3 i_5 k_6 c (vB true) :=
 L.done mixed tabOk (n:=234) (ns:=[3,1,1,3,3,1,1]) (tr:=[.auto,.reg [.none,.none,.none,.none,(.row i_5 ((lcell ARat.cells) v)),.none,(iI (v.length:Int))],.dec true,.reg [.none,.none,.none,(.row i_5 ((lcell ARat.cells) v)),.none,.none,(.row k_6 (ARat.cells v1)),.none,(.pv (vB lon))],.dec true,.reg []]) (cj (o_at (lcell ARat.cells) (Eq.refl (((i_5:Nat):Int):Int)) h1) (cj (o_len ARat.cells v) (cj (dltN_t h2) (cj (o_at (lcell ARat.cells) (Eq.refl (((i_5:Nat):Int):Int)) h1) (cj (o_at ARat.cells (Eq.refl (((k_6:Nat):Int):Int)) h3) (cj h4 (cj h5 True.intro))))))) (by kernel_rfl)
theorem l31(i_5 k_6:Nat)(c:ACam)(v:List ARat)(v1:ARat)(lon:Bool){r:PV}(h1:c.lift.pieces[i_5]? = some v)(h2:k_6<v.length)(h3:v[k_6]? = some v1)(h4:Contract prg 42 [v1.pv] (vB lon))(h5:lon=false)(h6:(k_6+1)<9223372036854775808)(hL:Loop3 i_5 (k_6+1) c r):Loop3 i_5 k_6 c r :=
 L.go mixed tabOk (n:=237) (ns:=[3,1,1,3,3,1,1,1]) (tr:=[.auto,.reg [.none,.none,.none,.none,(.row i_5 ((lcell ARat.cells) v)),.none,(iI (v.length:Int))],.dec true,.reg [.none,.none,.none,(.row i_5 ((lcell ARat.cells) v)),.none,.none,(.row k_6 (ARat.cells v1)),.none,(.pv (vB lon))],.dec false,.reg [.none,(iI (((k_6+1):Nat):Int))],.keep [3,5,6]]) (cj (o_at (lcell ARat.cells) (Eq.refl (((i_5:Nat):Int):Int)) h1) (cj (o_len ARat.cells v) (cj (dltN_t h2) (cj (o_at (lcell ARat.cells) (Eq.refl (((i_5:Nat):Int):Int)) h1) (cj (o_at ARat.cells (Eq.refl (((k_6:Nat):Int):Int)) h3) (cj h4 (cj h5 (cj (bs_addN h6) True.intro)))))))) (by kernel_rfl) hL
theorem l32(i_5 k_6:Nat)(c:ACam)(v:List ARat){r:PV}(h1:c.lift.pieces[i_5]? = some v)(h2:v.length≤k_6)(h3:(i_5+1)<9223372036854775808)(hL:Loop2 (i_5+1) c r):Loop3 i_5 k_6 c r :=
 L.go mixed tabOk (n:=228) (ns:=[3,1,1,1]) (tr:=[.auto,.reg [.none,.none,.none,.none,(.row i_5 ((lcell ARat.cells) v)),.none,(iI (v.length:Int))],.dec false,.reg [.none,(iI (((i_5+1):Nat):Int))],.keep [3,5]]) (cj (o_at (lcell ARat.cells) (Eq.refl (((i_5:Nat):Int):Int)) h1) (cj (o_len ARat.cells v) (cj (dltN_f h2) (cj (bs_addN h3) True.intro)))) (by kernel_rfl) hL
end linkworklaw53_large
namespace linkworklaw53_long
theorem e0(x:ARat)(h1:(x.num.length+x.den.length)<9223372036854775808):Contract prg 42 [x.pv] (vB (decide ((((x.num.length+x.den.length):Nat):Int)>2))) :=
 Contract.ofL Tryz.func42 (by kernel_rfl) (L.done mixed tabOk (n:=72) (ns:=[1,1,1]) (tr:=[.reg [],.reg [.none,.none,(iI (x.num.length:Int)),.none,.none,(iI (x.den.length:Int)),(iI (((x.num.length+x.den.length):Nat):Int))]]) (cj (o_len wordPV x.num) (cj (o_len wordPV x.den) (cj (bs_addN h1) True.intro))) (by kernel_rfl))
end linkworklaw53_long
namespace linkworklaw53_valid
theorem e0(c:ACam)(lar:Bool)(che:Int)(h1:Contract prg 41 [c.pv] (vB lar))(h2:lar=false)(h3:Contract prg 46 [c.pv] (vI che)):Contract prg 62 [c.pv] (vB (che==0)) :=
 Contract.ofL Tryz.func62 (by kernel_rfl) (L.done mixed tabOk (n:=72) (ns:=[1,1,1,1,1,1]) (tr:=[.reg [],.reg [.none,(.pv (vB lar)),.none,.none,.none,(.pv (vI che)),.none,(.dec true)]]) (cj h1 (cj (bnot_t h2) (cj (bnot_t h2) (cj h3 (cj (bnot_t h2) (cj (bnot_t h2) True.intro)))))) (by kernel_rfl))
theorem e1(c:ACam)(lar:Bool)(h1:Contract prg 41 [c.pv] (vB lar))(h2:lar=true):Contract prg 62 [c.pv] (vB false) :=
 Contract.ofL Tryz.func62 (by kernel_rfl) (L.done mixed tabOk (n:=72) (ns:=[1,1,1,1,1]) (tr:=[.reg [],.reg [.none,(.pv (vB lar)),.none,.none,.skip,.skip,.skip,(.dec false)]]) (cj h1 (cj (bnot_f h2) (cj (bnot_f h2) (cj (bnot_f h2) (cj (bnot_f h2) True.intro))))) (by kernel_rfl))
end linkworklaw53_valid
namespace linkworklaw53_example
theorem e0(par par1:ARat)(h1:Contract prg 105 [(vI 1),(vI 1)] par.pv)(h2:Contract prg 105 [(vI 1),(vI 1)] par1.pv):Contract prg 104 [] ((⟨par,(⟨[(⟨false,[],[]⟩:ARat)],[[(⟨false,[],[]⟩:ARat),par1]]⟩:ALaw)⟩:ACam).pv) :=
 Contract.ofL Tryz.func104 (by kernel_rfl) (L.done mixed tabOk (n:=72) (ns:=[1,3,1,3,3]) (tr:=[.reg [],.reg [(.pv par.pv),.none,(.slc 0 0 (([(⟨false,[],[]⟩:ARat)]:List ARat).map ARat.cells)),.none,(.pv par1.pv),(.slc 0 0 (([(⟨false,[],[]⟩:ARat),par1]:List ARat).map ARat.cells)),(.slc 0 0 (([[(⟨false,[],[]⟩:ARat),par1]]:List (List ARat)).map (lcell ARat.cells)))]]) (cj h1 (cj (o_bs sz_ARat ([(⟨false,[],[]⟩:ARat)]:List ARat)) (cj h2 (cj (o_bs sz_ARat ([(⟨false,[],[]⟩:ARat),par1]:List ARat)) (cj (o_bs (sz_l ARat.cells) ([[(⟨false,[],[]⟩:ARat),par1]]:List (List ARat))) True.intro))))) (by kernel_rfl))
end linkworklaw53_example
namespace linkworklaw53_part
theorem e0(n d:Int)(mak:ARat)(mak1:Int)(h1:Contract prg 86 [(vI n),(vI d)] (.tup [mak.pv,(vI mak1)])):Contract prg 105 [(vI n),(vI d)] mak.pv :=
 Contract.ofL Tryz.func105 (by kernel_rfl) (L.done mixed tabOk (n:=78) (ns:=[1]) (tr:=[.reg [],.reg [.none,.none,(.pv (.tup [mak.pv,(vI mak1)]))],.reg []]) (cj h1 True.intro) (by kernel_rfl))
end linkworklaw53_part
end Go.Proofs.YtbgkjomonebfcaaGreat.Sym.Path
namespace Go.Proofs.YtbgkjomonebfcaaGreat.Sym
open Go Path CInt
set_option linter.unusedVariables false
theorem short_valid{a:ARat}(hv:a.valid=true)(h:a.num.length+a.den.length≤2):a.num.length≤1∧a.den.length≤1:=by
 by_cases h0:a.num=[]
 ·rw[valid_zero hv h0];simp
 ·obtain⟨h1,_⟩:=valid_parts hv h0
  have:=List.length_pos_iff.2 h0
  have:=List.length_pos_iff.2 h1
  omega
namespace C53
theorem part(n d:Int)(hn:InI64 n)(hd:InI64 d)(h0:d≠0):Contract prg 105 [vI n,vI d] (mkR (Rat.divInt n d)).pv :=
 linkworklaw53_part.e0 n d _ _ (CRb.Make n d hn hd h0)
def exC:ACam:=⟨mkR (Rat.divInt 1 1),⟨[⟨false,[],[]⟩],[[⟨false,[],[]⟩,mkR (Rat.divInt 1 1)]]⟩⟩
theorem example':Contract prg 104 [] exC.pv :=
 linkworklaw53_example.e0 _ _ (part 1 1 (by unfold InI64;decide) (by unfold InI64;decide) (by decide)) (part 1 1 (by unfold InI64;decide) (by unfold InI64;decide) (by decide))
theorem exC_good:GCam exC:=⟨by decide +kernel,by decide +kernel,by decide +kernel,by decide +kernel,⟨by decide +kernel,by decide +kernel⟩,by decide +kernel⟩
theorem exC_conv:convC exC=true:=by decide +kernel
theorem ratR'(q:Rat)(hq:ht q≤68719476736):Contract prg 49 [(mkR q).pv,(mkR q).pv] (vB true):=by
 have h:=fit_mkRk hq
 have:=CBa.Rat (mkR q) (mkR q) (by omega) (by omega)
 rwa[eqR_self] at this
theorem awake:Contract prg 40 [] (vB true):=by
 have p1:=part 113 710 (by unfold InI64;decide) (by unfold InI64;decide) (by decide)
 have p2:=part 53 333 (by unfold InI64;decide) (by unfold InI64;decide) (by decide)
 have hpr:=CCa.Pressure exC_good 0 (by decide) (by decide +kernel)
 have hcv:=CCa.Convex exC_good
 rw[exC_conv] at hcv
 have e1:minR (tanP exC 0 piHi) (tanP exC 0 piLo)=Rat.divInt 113 710:=by decide +kernel
 have e2:maxR (tanP exC 0 piHi) (tanP exC 0 piLo)=Rat.divInt 53 333:=by decide +kernel
 rw[e1,e2] at hpr
 exact linkworklaw53_awake.e0 _ _ _ _ _ _ _ _ example' hpr example' hcv rfl p1 (ratR' _ (by decide +kernel)) rfl p2 (ratR' _ (by decide +kernel))
theorem long(x:ARat)(h:x.num.length+x.den.length<9223372036854775808):Contract prg 42 [x.pv] (vB (decide (2<x.num.length+x.den.length))):=by
 have:=linkworklaw53_long.e0 x h
 rwa[show decide ((((x.num.length+x.den.length):Nat):Int)>2)=decide (2<x.num.length+x.den.length) from by congr 1;apply propext;omega] at this
abbrev S2(l:List ARat):Prop:=∀a∈l,a.num.length+a.den.length≤2
structure SmallC (c:ACam):Prop where
 base:c.base.num.length+c.base.den.length≤2
 nb:c.lift.breaks.length≤40
 np:c.lift.pieces.length≤40
 nq:c.lift.pieces.length≤5∨16<c.lift.pieces.length
 sb:S2 c.lift.breaks
 sp:∀p∈c.lift.pieces,S2 p∧p.length≤80∧(p.length≤6∨9<p.length)
def Held(c:ACam):Prop:=c.base.num.length+c.base.den.length<9223372036854775808∧(∀a∈c.lift.breaks,a.num.length+a.den.length<9223372036854775808)∧∀p∈c.lift.pieces,∀a∈p,a.num.length+a.den.length<9223372036854775808
theorem large(c:ACam)(hh:Held c):Contract prg 41 [c.pv] (vB true)∨(SmallC c∧Contract prg 41 [c.pv] (vB false)):=by
 have hlb:=long c.base hh.1
 by_cases h0:2<c.base.num.length+c.base.den.length
 ·exact Or.inl (linkworklaw53_large.e0 c _ hlb (decide_eq_true h0))
 have h0':=decide_eq_false h0
 by_cases h1:40<c.lift.breaks.length
 ·exact Or.inl (linkworklaw53_large.e1 c _ hlb h0' h1)
 by_cases h2:40<c.lift.pieces.length
 ·exact Or.inl (linkworklaw53_large.e2 c _ hlb h0' (by omega) h2)
 by_cases h3:5<c.lift.pieces.length∧c.lift.pieces.length≤16
 ·exact Or.inl (linkworklaw53_large.e3 c _ hlb h0' (by omega) (by omega) h3.1 h3.2)
 have loop3:∀(i:Nat) (v:List ARat),c.lift.pieces[i]? = some v→(linkworklaw53_large.Loop2 (i+1) c (vB true)∨((∀p∈c.lift.pieces.drop (i+1),S2 p∧p.length≤80∧(p.length≤6∨9<p.length))∧linkworklaw53_large.Loop2 (i+1) c (vB false))) →
   v.length≤80→∀(j k:Nat),v.length-k=j→(linkworklaw53_large.Loop3 i k c (vB true)∨(S2 (v.drop k)∧(∀p∈c.lift.pieces.drop (i+1),S2 p∧p.length≤80∧(p.length≤6∨9<p.length))∧linkworklaw53_large.Loop3 i k c (vB false))):=by
  intro i v hv hnext hlv j
  have hi:=(List.getElem?_eq_some_iff.1 hv).1
  induction j with
  |zero =>
   intro k hj
   rcases hnext with h|⟨h,h'⟩
   ·exact Or.inl (linkworklaw53_large.l32 i k c v hv (by omega) (by omega) h)
   ·refine Or.inr ⟨?_,h,linkworklaw53_large.l32 i k c v hv (by omega) (by omega) h'⟩
    rw[List.drop_of_length_le (by omega)];exact fun a ha=>by cases ha
  |succ j ih =>
   intro k hj
   obtain⟨u,hu⟩:∃u,v[k]? = some u:=⟨_,List.getElem?_eq_getElem (by omega)⟩
   have hl:=long u (hh.2.2 v (List.mem_of_getElem? hv) u (List.mem_of_getElem? hu))
   by_cases h4:2<u.num.length+u.den.length
   ·exact Or.inl (linkworklaw53_large.l30 i k c v u _ hv (by omega) hu hl (decide_eq_true h4))
   ·rcases ih (k+1) (by omega) with h|⟨h,h',h''⟩
    ·exact Or.inl (linkworklaw53_large.l31 i k c v u _ hv (by omega) hu hl (decide_eq_false h4) (by omega) h)
    ·refine Or.inr ⟨?_,h',linkworklaw53_large.l31 i k c v u _ hv (by omega) hu hl (decide_eq_false h4) (by omega) h''⟩
     rw[drop_cons hu]
     intro a ha
     rcases List.mem_cons.1 ha with e|ha
     ·rw[e];omega
     ·exact h a ha
 have loop2:∀(j i:Nat),c.lift.pieces.length-i=j→(linkworklaw53_large.Loop2 i c (vB true)∨((∀p∈c.lift.pieces.drop i,S2 p∧p.length≤80∧(p.length≤6∨9<p.length))∧linkworklaw53_large.Loop2 i c (vB false))):=by
  intro j
  induction j with
  |zero =>
   intro i hj
   refine Or.inr ⟨?_,linkworklaw53_large.l25 i c (by omega)⟩
   rw[List.drop_of_length_le (by omega)];exact fun a ha=>by cases ha
  |succ j ih =>
   intro i hj
   obtain⟨v,hv⟩:∃v,c.lift.pieces[i]? = some v:=⟨_,List.getElem?_eq_getElem (by omega)⟩
   by_cases h9:6<v.length∧v.length≤9
   ·exact Or.inl (linkworklaw53_large.l20 i c v (by omega) hv h9.1 h9.2)
   ·have go:∀b,linkworklaw53_large.Loop3 i 0 c (vB b)→v.length≤80→linkworklaw53_large.Loop2 i c (vB b):=by
     intro b hb h80
     by_cases h6:6<v.length
     ·exact linkworklaw53_large.l22 i c v (by omega) hv h6 (by omega) h80 hb
     ·exact linkworklaw53_large.l24 i c v (by omega) hv (by omega) h80 hb
    by_cases h80:80<v.length
    ·exact Or.inl (linkworklaw53_large.l21 i c v (by omega) hv (by omega) (by omega) h80)
    ·rcases loop3 i v hv (ih (i+1) (by omega)) (by omega) _ 0 rfl with h|⟨h,h',h''⟩
     ·exact Or.inl (go _ h (by omega))
     ·refine Or.inr ⟨?_,go _ h'' (by omega)⟩
      rw[drop_cons hv]
      intro p hp
      rcases List.mem_cons.1 hp with e|hp
      ·rw[e];exact⟨by rwa[List.drop_zero] at h,by omega,by omega⟩
      ·exact h' p hp
 have loop1:∀(j i:Nat),c.lift.breaks.length-i=j→(linkworklaw53_large.Loop1 i c (vB true)∨(S2 (c.lift.breaks.drop i)∧(∀p∈c.lift.pieces,S2 p∧p.length≤80∧(p.length≤6∨9<p.length))∧linkworklaw53_large.Loop1 i c (vB false))):=by
  intro j
  induction j with
  |zero =>
   intro i hj
   rcases loop2 _ 0 rfl with h|⟨h,h'⟩
   ·exact Or.inl (linkworklaw53_large.l12 i c (by omega) h)
   ·rw[List.drop_zero] at h
    refine Or.inr ⟨?_,h,linkworklaw53_large.l12 i c (by omega) h'⟩
    rw[List.drop_of_length_le (by omega)];exact fun a ha=>by cases ha
  |succ j ih =>
   intro i hj
   obtain⟨u,hu⟩:∃u,c.lift.breaks[i]? = some u:=⟨_,List.getElem?_eq_getElem (by omega)⟩
   have hl:=long u (hh.2.1 u (List.mem_of_getElem? hu))
   by_cases h4:2<u.num.length+u.den.length
   ·exact Or.inl (linkworklaw53_large.l10 i c u _ (by omega) hu hl (decide_eq_true h4))
   ·rcases ih (i+1) (by omega) with h|⟨h,h',h''⟩
    ·exact Or.inl (linkworklaw53_large.l11 i c u _ (by omega) hu hl (decide_eq_false h4) (by omega) h)
    ·refine Or.inr ⟨?_,h',linkworklaw53_large.l11 i c u _ (by omega) hu hl (decide_eq_false h4) (by omega) h''⟩
     rw[drop_cons hu]
     intro a ha
     rcases List.mem_cons.1 ha with e|ha
     ·rw[e];omega
     ·exact h a ha
 have go:∀b,linkworklaw53_large.Loop1 0 c (vB b)→Contract prg 41 [c.pv] (vB b):=by
  intro b hb
  by_cases h5:5<c.lift.pieces.length
  ·exact linkworklaw53_large.e4 c _ hlb h0' (by omega) (by omega) h5 (by omega) hb
  ·exact linkworklaw53_large.e5 c _ hlb h0' (by omega) (by omega) (by omega) hb
 rcases loop1 _ 0 rfl with h|⟨h,h',h''⟩
 ·exact Or.inl (go _ h)
 ·rw[List.drop_zero] at h
  exact Or.inr ⟨⟨by omega,by omega,by omega,by omega,h,h'⟩,go _ h''⟩
theorem small_fit{c:ACam}(s:SmallC c):FitW 2 c.lift:=⟨fun a ha=>by have:=s.sb a ha;omega,fun p hp a ha=>by have:=(s.sp p hp).1 a ha;omega⟩
theorem small_good{c:ACam}(s:SmallC c)(h:chkCam c=0):GCam c:=by
 obtain⟨h1,h2,h3⟩:=chkCam_zero h
 have g:=good_of h1
 have hb:=short_valid h2 s.base
 refine⟨h1,h2,h3,ht_fit (k:=4) (by omega) (by omega) (by omega),⟨fun a ha=>short_valid (List.all_eq_true.1 g.valid a ha) (s.sb a ha),fun p hp a ha=>short_valid (List.all_eq_true.1 (chk_valid (g.ps p hp).1) a ha) ((s.sp p hp).1 a ha)⟩,fun p hp => ?_⟩
 have:=(s.sp p hp).2.2
 have:=(g.ps p hp).2
 omega
end C53
end Go.Proofs.YtbgkjomonebfcaaGreat.Sym
namespace Go.Proofs.YtbgkjomonebfcaaGreat.Sym
open Go Go.RowKit Go.ChangeShapes Go.WideShapes
set_option linter.unusedVariables false
theorem opens_ALaw:Opens prg 74 ALaw.cells (fun l=>(∀a∈l.breaks,LenR a)∧∀p∈l.pieces,∀a∈p,LenR a):=by
 intro H enc w base spare held fuel cs x h hwt
 obtain⟨fs,hu,e⟩:=flds_spec (show fldsOf (prg.underlying 74)=some [(22,0),(72,1)] by kernel_rfl)
 have hl:=opens_struct hu h
 have hl:cs.length=1+1:=hl.trans (by kernel_rfl)
 obtain⟨a,r0,q0⟩:=opens_field hu h hwt 0 0 1 (e 0) (by kernel_rfl) opens_rats
 obtain⟨b,r1,q1⟩:=opens_field hu h hwt 1 1 1 (e 1) (by kernel_rfl) opens_polys
 refine⟨⟨a,b⟩,?_,q0,q1⟩
 rw[split2 cs 1 1 hl]
 exact rdCells_append r0 r1
theorem opens_ACam:Opens prg 76 ACam.cells C53.Held:=by
 intro H enc w base spare held fuel cs x h hwt
 obtain⟨fs,hu,e⟩:=flds_spec (show fldsOf (prg.underlying 76)=some [(26,0),(74,3)] by kernel_rfl)
 have hl:=opens_struct hu h
 have hl:cs.length=3+2:=hl.trans (by kernel_rfl)
 obtain⟨a,r0,q0⟩:=opens_field hu h hwt 0 0 3 (e 0) (by kernel_rfl) opens_ARat
 obtain⟨b,r1,q1,q2⟩:=opens_field hu h hwt 1 3 2 (e 1) (by kernel_rfl) opens_ALaw
 refine⟨⟨a,b⟩,?_,lenR_sum q0,fun u hu=>lenR_sum (q1 u hu),fun p hp u hu=>lenR_sum (q2 p hp u hu)⟩
 rw[split2 cs 3 2 hl]
 exact rdCells_append r0 r1
end Go.Proofs.YtbgkjomonebfcaaGreat.Sym
namespace Go.Proofs.YtbgkjomonebfcaaGreat.Sym
set_option linter.unusedVariables false
theorem mul_num{q:List Rat}{Dp Dq:Int}{M K:Nat}(hq:∀i,∃m:Int,coef q i*(Dq:Rat)=(m:Rat)∧m.natAbs≤K):∀(p:List Rat),(∀i,∃m:Int,coef p i*(Dp:Rat)=(m:Rat)∧m.natAbs≤M) →
  ∀i,∃m:Int,coef (mulL p q) i*((Dp*Dq:Int):Rat)=(m:Rat)∧m.natAbs≤p.length*(M*K)
 |[],_,i=>⟨0,by rw[show coef (mulL [] q) i=0 from rfl,Rat.zero_mul];rfl,Nat.zero_le _⟩
 |a::p,hp,i=>by
  have ih:=mul_num hq p (fun i=>by obtain⟨m,h⟩:=hp (i+1);exact⟨m,h⟩)
  obtain⟨m0,h1,h2⟩:=hp 0
  rw[coef_zero] at h1
  obtain⟨n0,h3,h4⟩:=hq i
  have hmn:(m0*n0).natAbs≤M*K:=by rw[Int.natAbs_mul];exact Nat.mul_le_mul h2 h4
  rw[coef_mul_cons,List.length_cons,Nat.add_mul,Nat.one_mul]
  cases i with
  |zero =>
   refine⟨m0*n0,?_,by omega⟩
   rw[coef_zero,Rat.intCast_mul,Rat.intCast_mul,←h1,←h3]
   grind
  |succ i =>
   rw[coef_succ]
   obtain⟨k,k1,k2⟩:=ih i
   refine⟨m0*n0+k,?_,?_⟩
   ·rw[Rat.intCast_add,←k1,Rat.intCast_mul,Rat.intCast_mul,←h1,←h3]
    grind
   ·have:=Int.natAbs_add_le (m0*n0) k
    omega
theorem Ch.mul{h k:Nat}{p q:List Rat}(hp:Ch h p)(hq:Ch k q)(hl:p.length≤4294967295):Ch (h+k+1) (mulL p q):=by
 obtain⟨D,d1,d2,d3⟩:=hp
 obtain⟨E,e1,e2,e3⟩:=hq
 have bd:∀(m:Int) (j:Nat),wl m≤j→m.natAbs≤4294967296^j:=by
  intro m j hm
  have h1:=lt_of_len m.natAbs
  have h2:=pow_le (a:=(words m.natAbs).length) (b:=j) hm
  omega
 have key:=mul_num (q:=q) (Dp:=D) (Dq:=E) (M:=4294967296^h) (K:=4294967296^k) (fun i=>by obtain⟨m,a,b⟩:=e3 i;exact⟨m,a,bd m k b⟩) p (fun i=>by obtain⟨m,a,b⟩:=d3 i;exact⟨m,a,bd m h b⟩)
 have hDE:wl (D*E)≤h+k:=by
  have:=wl_mul D E
  omega
 refine⟨D*E,Int.mul_ne_zero d1 e1,by omega,fun i => ?_⟩
 obtain⟨m,a,b⟩:=key i
 refine⟨m,a,len_of_lt ?_⟩
 rw[Nat.pow_add,Nat.pow_add,Nat.pow_one]
 have hP:0<4294967296^h*4294967296^k:=Nat.mul_pos (Nat.pow_pos (by omega)) (Nat.pow_pos (by omega))
 have h2:p.length*(4294967296^h*4294967296^k)≤4294967295*(4294967296^h*4294967296^k):=Nat.mul_le_mul_right _ hl
 generalize 4294967296^h*4294967296^k=P at *
 omega
end Go.Proofs.YtbgkjomonebfcaaGreat.Sym
namespace Go.Proofs.YtbgkjomonebfcaaGreat.Sym
open Go Go.RowKit Go.Shelf
set_option linter.unusedVariables false
theorem Bel.grow(hS:Str){w w':World}(h:Bel w.heap.size w w'):∃q os',w'=Sort.grow (w.drewN q) os':=by
 refine⟨w'.drawn-w.drawn,w'.heap.extract w.heap.size w'.heap.size,?_⟩
 obtain⟨⟨h1,h2,h3,h4,h5⟩,h6⟩:=h
 have h6:=h6 hS
 obtain⟨hp,tp,dr,os,out⟩:=w
 obtain⟨hp',tp',dr',os',out'⟩:=w'
 simp only[Sort.grow,World.drewN] at *
 subst h1;subst h2;subst h3
 have e1:dr+(dr'-dr)=dr':=by omega
 have e2:hp++hp'.extract hp.size hp'.size=hp':=by
  apply Array.ext_getElem?
  intro i
  by_cases hi:i<hp.size
  ·rw[Array.getElem?_append_left hi,h5 i hi]
  ·rw[Array.getElem?_append_right (by omega),Array.getElem?_extract]
   by_cases hj:i<hp'.size
   ·rw[if_pos (by omega)]
    congr 1;omega
   ·rw[if_neg (by omega),Array.getElem?_eq_none (by omega)]
 rw[e1,e2]
def encA(arr:Array Value)(off k n x:Nat):List Value:=(List.range k).map fun j=>arr.getD (off+((bif Nat.blt x n then x else 0)*k+j)) undef
theorem encA_len(arr:Array Value)(off k n x:Nat):(encA arr off k n x).length=k:=by simp[encA]
def clN(n x:Nat):Nat:=bif Nat.blt x n then x else 0
theorem clN_lt{n x:Nat}(h:0<n):clN n x<n:=by
 unfold clN
 cases hb:Nat.blt x n with
 |true=>exact Nat.le_of_ble_eq_true hb
 |false=>exact h
theorem clN_id{n x:Nat}(h:x<n):clN n x=x:=by
 unfold clN
 have:Nat.blt x n=true:=Nat.ble_eq_true_of_le h
 rw[this];rfl
theorem encA_get{arr:Array Value}{off k n x j:Nat}(hj:j<k):(encA arr off k n x)[j]? = some (arr.getD (off+(clN n x*k+j)) undef):=by
 unfold encA
 rw[List.getElem?_map,List.getElem?_range hj]
 rfl
def cfx(c:List PV→List PV→Int)(xs:List (List PV))(x y:Nat):Int:=c (xs.getD (clN xs.length x) []) (xs.getD (clN xs.length y) [])
structure Swo (c:List PV→List PV→Int) (xs:List (List PV)):Prop where
 irrefl:∀a∈xs,¬c a a<0
 trans:∀a∈xs,∀b∈xs,∀d∈xs,c a b<0→c b d<0→c a d<0
 ntrans:∀a∈xs,∀b∈xs,∀d∈xs,¬c a b<0→¬c b d<0→¬c a d<0
theorem getD_mem{α:Type}{xs:List α}{i:Nat}{d:α}(h:i<xs.length):xs.getD i d∈xs:=by
 rw[List.getD_eq_getElem?_getD,List.getElem?_eq_getElem h,Option.getD_some]
 exact List.getElem_mem h
theorem Swo.places{c:List PV→List PV→Int}{xs:List (List PV)}(h:Swo c xs)(h0:0<xs.length):Sort.SWO (ltOf (cfx c xs)) where
 irrefl x:=by
  have:=h.irrefl _ (getD_mem (d:=[]) (clN_lt (x:=x) h0))
  unfold ltOf cfx;exact decide_eq_false this
 trans x y z h1 h2:=by
  unfold ltOf cfx at *
  exact decide_eq_true (h.trans _ (getD_mem (clN_lt h0)) _ (getD_mem (clN_lt h0)) _ (getD_mem (clN_lt h0)) (of_decide_eq_true h1) (of_decide_eq_true h2))
 ntrans x y z h1 h2:=by
  unfold ltOf cfx at *
  exact decide_eq_false (h.ntrans _ (getD_mem (clN_lt h0)) _ (getD_mem (clN_lt h0)) _ (getD_mem (clN_lt h0)) (of_decide_eq_false h1) (of_decide_eq_false h2))
def sortIx(c:List PV→List PV→Int)(xs:List (List PV)):Array Nat:=Sort.pdq (ltOf (cfx c xs)) (Array.range xs.length) 0 xs.length (Lib.bitLen xs.length) true true
def sortBy(c:List PV→List PV→Int)(xs:List (List PV)):List (List PV):=(sortIx c xs).toList.map (xs.getD · [])
section
variable {c:List PV→List PV→Int} {xs:List (List PV)}
theorem sortIx_spec(h:Swo c xs)(h0:0<xs.length):(sortIx c xs).toList.Perm (List.range xs.length)∧Sort.SortedIn (ltOf (cfx c xs)) 0 xs.length (sortIx c xs):=by
 obtain⟨⟨g1,g2,g3⟩,g4⟩:=Sort.pdq_sorts (ltOf (cfx c xs)) (h.places h0) (Array.range xs.length) 0 xs.length (Lib.bitLen xs.length) true true (Nat.zero_le _) (by simp) (Or.inl rfl)
 refine⟨?_,g4⟩
 rw[Array.size_range] at g1
 have e1:((Sort.pdq (ltOf (cfx c xs)) (Array.range xs.length) 0 xs.length (Lib.bitLen xs.length) true true).extract 0 xs.length)=sortIx c xs:=by
  show(sortIx c xs).extract 0 xs.length=_
  have:xs.length=(sortIx c xs).size:=g1.symm
  generalize sortIx c xs=z at this
  rw[this]
  exact Array.extract_size
 have e2:(Array.range xs.length).extract 0 xs.length=Array.range xs.length:=by
  conv=>lhs;arg 3;rw[←Array.size_range (n:=xs.length)]
  exact Array.extract_size
 rw[e1,e2,Array.toList_range] at g3
 exact g3
theorem sortIx_size(h:Swo c xs)(h0:0<xs.length):(sortIx c xs).size=xs.length:=by
 have:=(sortIx_spec h h0).1.length_eq
 simpa using this
theorem sortIx_lt(h:Swo c xs)(h0:0<xs.length){i:Nat}(hi:i∈(sortIx c xs).toList):i<xs.length:=by
 have:=(sortIx_spec h h0).1.mem_iff.1 hi
 simpa using this
theorem range_getD{α:Type}(l:List α)(d:α):(List.range l.length).map (l.getD · d)=l:=by
 apply List.ext_getElem?
 intro i
 rw[List.getElem?_map]
 by_cases hi:i<l.length
 ·rw[List.getElem?_range hi,Option.map_some,List.getD_eq_getElem?_getD,List.getElem?_eq_getElem hi];rfl
 ·rw[List.getElem?_eq_none (by simpa using hi),List.getElem?_eq_none (by omega)];rfl
theorem sortBy_perm(h:Swo c xs)(h0:0<xs.length):(sortBy c xs).Perm xs:=by
 have:=(sortIx_spec h h0).1.map (xs.getD · [])
 rw[range_getD] at this
 exact this
theorem sortBy_sorted(h:Swo c xs)(h0:0<xs.length):(sortBy c xs).Pairwise fun a b=>¬c b a<0:=by
 unfold sortBy
 rw[List.pairwise_map,List.pairwise_iff_getElem]
 intro i j hi hj hij
 have hs:=sortIx_size h h0
 have hi':i<xs.length:=by rw[←hs];simpa using hi
 have hj':j<xs.length:=by rw[←hs];simpa using hj
 have:=(sortIx_spec h h0).2 i j (Nat.zero_le _) hij hj'
 have e:∀(q:Nat) (hq:q<(sortIx c xs).toList.length),(sortIx c xs)[q]! = (sortIx c xs).toList[q]:=fun q hq=>by
  rw[getElem!_pos _ q (by simpa using hq)];rfl
 rw[e j hj,e i hi] at this
 have h1:=of_decide_eq_false (p:=cfx c xs _ _<0) this
 unfold cfx at h1
 rw[clN_id (sortIx_lt h h0 (List.getElem_mem hj)),clN_id (sortIx_lt h h0 (List.getElem_mem hi))] at h1
 exact h1
end
theorem sortW_heap(enc:Nat→List Value)(k:Nat)(w:World)(b off m:Nat)(d:Array Nat)(os:Array Obj)(x:Nat)(hx:x<w.heap.size) :
  (sortWorldK enc k w b off m d os).heap[x]? = if b=x then w.heap[x]?.map (Sort.onCells (Sort.putCells id off (Sort.flatK enc k d))) else w.heap[x]? := by
 unfold sortWorldK Sort.putRowK Sort.putRow Sort.mapBlock Sort.grow Sort.ahead
 simp only
 rw[Array.getElem?_append_left (by simpa using hx),Array.getElem?_modify]
theorem sortW_size(enc:Nat→List Value)(k:Nat)(w:World)(b off m:Nat)(d:Array Nat)(os:Array Obj) :
  (sortWorldK enc k w b off m d os).heap.size=w.heap.size+os.size:=by
 unfold sortWorldK Sort.putRowK Sort.putRow Sort.mapBlock Sort.grow Sort.ahead
 simp
end Go.Proofs.YtbgkjomonebfcaaGreat.Sym
namespace Go.Proofs.YtbgkjomonebfcaaGreat.Sym
open Go Go.RowKit Go.Shelf
set_option linter.unusedVariables false
theorem Callable.enters {P : Program} {f : FuncId} (hc : Callable P f) : ∀ args w, (callFunc f args).run P w = .ok (.enter f args) w := by
  obtain ⟨fn, h1, h2, h3⟩ := hc
  intro args w
  have hb : fn.body ≠ none := by intro e; rw [e] at h2; cases h2
  have h3' : fn.name ≠ "runtime.NumGoroutine" := by simpa using h3
  simp [callFunc, h1, h3', hb]
theorem getD_row{α:Type}{xs:List α}{i:Nat}{d:α}(h:i<xs.length):xs[i]? = some (xs.getD i d):=by
 rw[List.getD_eq_getElem?_getD,List.getElem?_eq_getElem h,Option.getD_some]
section
variable {P:Program} {ρ:Ren} {k off cap b:Nat} {I1:Nat→Prop} {w:World} {arr:Array Value} {el:TypeId} {xs:List (List PV)} {c:List PV→List PV→Int}
theorem encA_row(hrow:∀(i j:Nat) row x,xs[i]? = some row→row[j]? = some x→∃u,arr[off+(i*k+j)]? = some u∧u.oneCell'=true∧Rd I1 w x u)
  (hlen:∀row∈xs,row.length=k) (h0:0<xs.length) (x:Nat):(∀v∈encA arr off k xs.length x,v.oneCell'=true)∧Rd I1 w (.agg (xs.getD (clN xs.length x) [])) (.agg (encA arr off k xs.length x).toArray):=by
 have hc:=clN_lt (x:=x) h0
 have hr:=getD_row (d:=[]) hc
 have hl:=hlen _ (List.mem_of_getElem? hr)
 have key:∀j,j<k→∃p u,(xs.getD (clN xs.length x) [])[j]? = some p∧(encA arr off k xs.length x)[j]? = some u∧u.oneCell'=true∧Rd I1 w p u:=fun j hj=>by
  have hp:(xs.getD (clN xs.length x) [])[j]? = some ((xs.getD (clN xs.length x) [])[j]'(by rw[hl];exact hj)):=List.getElem?_eq_getElem _
  obtain⟨u,h1,h2,h3⟩:=hrow _ j _ _ hr hp
  refine⟨_,u,hp,?_,h2,h3⟩
  rw[encA_get hj,Array.getD_eq_getD_getElem?,h1];rfl
 refine⟨fun v hv => ?_,?_⟩
 ·obtain⟨j,hj,hv⟩:=List.getElem_of_mem hv
  rw[encA_len] at hj
  obtain⟨p,u,_,h2,h3,_⟩:=key j hj
  rw[List.getElem?_eq_getElem (by rw[encA_len];exact hj)] at h2
  injection h2 with h2
  rw[←hv,h2];exact h3
 ·refine .agg _ _ (by rw[hl];simp[encA_len]) (fun j q hq => ?_) (fun j q u hq hu => ?_)
  ·have hj:j<k:=by rw[←hl];exact(List.getElem?_eq_some_iff.1 hq).1
   obtain⟨p,u,h1,h2,h3,h4⟩:=key j hj
   rw[hq] at h1;injection h1 with h1;subst h1
   exact PV.one_of_cell h4 h3
  ·have hj:j<k:=by rw[←hl];exact(List.getElem?_eq_some_iff.1 hq).1
   obtain⟨p,u',h1,h2,h3,h4⟩:=key j hj
   rw[hq] at h1;injection h1 with h1;subst h1
   rw[List.getElem?_toArray,h2] at hu
   injection hu with hu;subst hu
   exact h4
theorem sortW_cell{enc:Nat→List Value}{m:Nat}{d:Array Nat}{os:Array Obj}{x:Nat}(hx:x<w.heap.size)(hb:x≠b)(o:Nat) :
  (sortWorldK enc k w b off m d os).cell? ⟨x,o,none⟩=w.cell? ⟨x,o,none⟩ :=
 cell_heap (by rw[sortW_heap _ _ _ _ _ _ _ _ _ hx,if_neg (fun h=>hb h.symm)]) o
theorem sort_core(hS:Str)(L:SlLaysF0.n6 P ρ)(aE:∀w,(isAgg (ρ.t 24)).run P w = .ok true w)(zE:∀w,(Go.sizeOf (ρ.t 24)).run P w = .ok k w)
  (hb:w.heap[b]? = some (.cells arr el (0,0))) (hI:∀x,I1 x→x<w.heap.size∧x≠b)
  (hrow:∀(i j:Nat) row x,xs[i]? = some row→row[j]? = some x→∃u,arr[off+(i*k+j)]? = some u∧u.oneCell'=true∧Rd I1 w x u)
  (hlen:∀row∈xs,row.length=k) (h0:0<xs.length) (hk0:0<k) (hsz:xs.length<4611686018427387904) (hO:Swo c xs)
  {g:FuncId} {ex:List EV} {cb:Array Value} (hex:ex.length=cb.size) (hcb:∀(j:Nat) e v,ex[j]? = some e→cb[j]? = some v→RE (fun _=>none) (dom []) I1 w e v)
  (hcmp:∀a∈xs,∀b∈xs,ContractX P g (.pv (.agg a) :: .pv (.agg b)::ex) [] (.pv (.int .i64 (c a b))) []) :
  Calls P (ρ.f 6) #[.slice (some ⟨b,off,none⟩) xs.length cap,.func (.func g) #[] cb] w fun e w' =>
   e = .returned (.tuple #[])∧∃m os,w'=sortWorldK (encA arr off k xs.length) k w b off m (sortIx c xs) os:=by
 have hmem:∀x,xs.getD (clN xs.length x) []∈xs:=fun x=>getD_mem (clN_lt h0)
 have hnd:∀x,¬dom [] x:=fun x h=>by simp[dom,Sto.get] at h
 have hbs:b<w.heap.size:=(Array.getElem?_eq_some_iff.1 hb).1
 have eg:=(hcmp _ (hmem 0) _ (hmem 0)).1.enters
 have hH:Sort.HoldsK (encA arr off k xs.length) k w b off (Array.range xs.length):=by
  intro j hj
  rw[Sort.size_flatK,Array.size_range] at hj
  have hq:j/k<xs.length:=Nat.div_lt_of_lt_mul (by rwa[Nat.mul_comm])
  have hm:j%k<k:=Nat.mod_lt _ hk0
  have hr:=getD_row (d:=[]) hq
  have hp:(xs.getD (j/k) [])[j%k]? = some ((xs.getD (j/k) [])[j%k]'(by rw[hlen _ (List.mem_of_getElem? hr)];exact hm)):=List.getElem?_eq_getElem _
  obtain⟨u,h1,h2,h3⟩:=hrow _ _ _ _ hr hp
  have hjk:j/k*k+j%k=j:=by rw[Nat.mul_comm];exact Nat.div_add_mod _ _
  refine⟨?_,by simp[World.frozen?,hb]⟩
  rw[Sort.get_flatK _ _ _ _ (by simpa using hj)]
  have e1:(Array.range xs.length)[j/k]! = j/k:=by
   rw[getElem!_pos _ _ (by simpa using hq)];simp
  rw[e1]
  have e2:=encA_get (arr:=arr) (off:=off) (n:=xs.length) (x:=j/k) hm
  rw[clN_id hq,Array.getD_eq_getD_getElem?,h1] at e2
  rw[List.getElem!_eq_getElem?_getD,e2]
  rw[hjk] at h1
  show w.cell? ⟨b,off+j,none⟩=some u
  simp[World.cell?,hb,h1]
 have hC:CmpLays P g cb (encA arr off k xs.length) k (cfx c xs) b off (Array.range xs.length).size w:=by
  intro m os dk hdk x y
  have hc:=hcmp _ (hmem x) _ (hmem y)
  have hcell:∀(q o:Nat),I1 q→(sortWorldK (encA arr off k xs.length) k w b off m dk os).cell? ⟨q,o,none⟩=w.cell? ⟨q,o,none⟩:=fun q o hq=>sortW_cell (hI q hq).1 (hI q hq).2 o
  have rx:=(encA_row hrow hlen h0 x).2.mono (fun _ h=>h) hcell
  have ry:=(encA_row hrow hlen h0 y).2.mono (fun _ h=>h) hcell
  refine(hc.2 I1 _ (fun _=>none) _ (fun q hq => ?_) (stoOk_nil _ _ _) (by simp[hex];omega) (fun j e v he hv => ?_)).mono fun e w' hp => ?_
  ·rw[sortW_size];exact Nat.lt_of_lt_of_le (hI q hq).1 (Nat.le_add_right _ _)
  ·cases j with
   |zero =>
    rw[Array.getElem?_append_left (by simp)] at hv
    injection he with he;subst he
    simp at hv;subst hv;exact rx
   |succ j =>
    cases j with
    |zero =>
     rw[Array.getElem?_append_left (by simp)] at hv
     injection he with he;subst he
     simp at hv;subst hv;exact ry
    |succ j =>
     have he':ex[j]? = some e:=by simpa using he
     have hv':cb[j]? = some v:=by
      rw[Array.getElem?_append_right (by simp)] at hv
      simpa using hv
     exact(hcb j e v he' hv').mono (fun r h=>absurd h (hnd r)) (fun _ h=>h) (fun _ h=>h) hcell (fun r _ h=>absurd h (hnd r))
  ·obtain⟨v,β',rfl,_,hk,_,hre,_⟩:=hp
   have hre:Rd _ _ (.int .i64 (cfx c xs x y)) v:=hre
   refine⟨congrArg _ (rd_int hre),?_⟩
   exact Bel.grow hS ⟨⟨hk.os,hk.tape,hk.output,hk.size,fun q hq=>hk.block q hq (fun ⟨x,hx,_⟩=>hnd x hx)⟩,hk.drawn⟩
 have hcon:=AnyQ.slices_SortFunc_eq L k aE zE (encA arr off k xs.length) (encA_len arr off k xs.length) (fun x=>(encA_row hrow hlen h0 x).1) (cfx c xs) (hO.places h0) g cb b off cap (Array.range xs.length) w eg hC hH hbs (by simpa using hsz)
 rw[Array.size_range] at hcon
 exact hcon
end
theorem flat_inv{k:Nat} : ∀{ys:List (List PV)} {t:Nat} {e:PV},(∀row∈ys,row.length=k)→ys.flatten[t]? = some e→∃row,ys[t/k]? = some row∧row[t%k]? = some e∧t<ys.length*k
 |[],t,e,_,h=>by simp at h
 |r::ys,t,e,hl,h=>by
  have hr:r.length=k:=hl r (by simp)
  rw[List.flatten_cons] at h
  by_cases ht:t<k
  ·rw[List.getElem?_append_left (by omega)] at h
   refine⟨r,by rw[Nat.div_eq_of_lt ht];rfl,by rw[Nat.mod_eq_of_lt ht];exact h,?_⟩
   rw[List.length_cons,Nat.succ_mul];omega
  ·rw[List.getElem?_append_right (by omega),hr] at h
   obtain⟨row,h1,h2,h3⟩:=flat_inv (fun row hr=>hl row (by simp[hr])) h
   have hk:0<k:=by
    rcases Nat.eq_zero_or_pos k with h0|h0
    ·subst h0;simp at h3
    ·exact h0
   obtain⟨s,rfl⟩:∃s,t=s+k:=⟨t-k,by omega⟩
   rw[Nat.add_sub_cancel] at h1 h2 h3
   refine⟨row,by rw[Nat.add_div_right _ hk];exact h1,by rw[Nat.add_mod_right];exact h2,?_⟩
   rw[List.length_cons,Nat.succ_mul];omega
theorem sortBy_len{c:List PV→List PV→Int}{xs:List (List PV)}{k:Nat}(hO:Swo c xs)(h0:0<xs.length)(hl:∀row∈xs,row.length=k):∀row∈sortBy c xs,row.length=k :=
 fun row hr=>hl row ((sortBy_perm hO h0).mem_iff.1 hr)
section
variable {P:Program} {ρ:Ren} {k n:Nat} {xs:List (List PV)} {c:List PV→List PV→Int}
theorem sort_fn(hS:Str)(L:SlLaysF0.n6 P ρ)(hf:Callable P (ρ.f 6))(aE:∀w,(isAgg (ρ.t 24)).run P w = .ok true w)(zE:∀w,(Go.sizeOf (ρ.t 24)).run P w = .ok k w)
  (pre post:List PV) (y:Nat) (hlen:∀row∈xs,row.length=k) (hn:xs.length=n) (h0:0<n) (hk0:0<k) (hsz:n<4611686018427387904) (hO:Swo c xs) {g:FuncId}
  (hcmp:∀a∈xs,∀b∈xs,Contract P g [.agg a,.agg b] (.int .i64 (c a b))) :
  ContractX P (ρ.f 6) [.row y pre.length n k,.pv (.fn g)] [(y,.pure (pre++xs.flatten++post))] (.pv (.tup [])) [(y,.pure (pre++(sortBy c xs).flatten++post))]:=by
 subst hn
 refine⟨hf,fun I w β vs hI hso hl hre => ?_⟩
 have hdy:dom [(y,SC.pure (pre++xs.flatten++post))] y:=by simp[dom,Sto.get]
 have hdq:∀{sc:SC} q,dom [(y,sc)] q→q=y:=fun q h=>by
  unfold dom at h
  simp only[Sto.get] at h
  cases hb:Nat.beq y q with
  |true=>exact(Nat.eq_of_beq_eq_true hb).symm
  |false=>simp[hb] at h
 obtain⟨v,u,rfl⟩:∃v u,vs = #[v,u]:=by
  match vs,hl with
  |⟨[v,u]⟩,_=>exact⟨v,u,rfl⟩
 have hu:Rd I w (.fn g) u:=hre 1 _ u rfl rfl
 have hu:u = .func (.func g) #[] #[]:=by cases hu;rfl
 subst hu
 have hv:=hre 0 _ v rfl rfl
 obtain⟨hrb,hbk⟩:=hso.1 y (.pure (pre++xs.flatten++post)) (by simp only[Sto.get,Nat.beq_refl,cond_true])
 have hrb:RB β (dom [(y,SC.pure (pre++xs.flatten++post))]) I w y ((pre++xs.flatten++post).map EV.pv):=hrb
 obtain⟨_,⟨_,he0,_⟩|⟨b,cap,hb,rfl,hcap,_⟩⟩:=hv
 ·omega
 obtain⟨arr,el,hg,hsize,hcs⟩:=pureRB_inv hrb hb
 obtain⟨hbs,hIb⟩:=hbk b hb
 have hrow:∀(i j:Nat) row x,xs[i]? = some row→row[j]? = some x→∃u,arr[pre.length+(i*k+j)]? = some u∧u.oneCell'=true∧Rd I w x u:=fun i j row x hi hj=>by
  refine hcs _ x ?_
  have h1:=flat_get2 hlen hi hj
  rw[List.append_assoc,List.getElem?_append_right (Nat.le_add_right _ _),Nat.add_sub_cancel_left,List.getElem?_append_left (List.getElem?_eq_some_iff.1 h1).1]
  exact h1
 refine(sort_core hS L aE zE hg (fun x hx=>⟨hI x hx,fun e=>hIb (by rw[←e];exact hx)⟩) hrow hlen h0 hk0 hsz hO (g:=g) (ex:=[]) (cb := #[]) rfl (fun j e v he=>by simp at he) hcmp).mono fun e w' hp => ?_
 obtain⟨rfl,m,os,rfl⟩:=hp
 have hheap:=fun (x:Nat) (hx:x<w.heap.size)=>sortW_heap (encA arr pre.length k xs.length) k w b pre.length m (sortIx c xs) os x hx
 have hbh:=hheap b hbs
 rw[if_pos rfl,hg] at hbh
 have hother:∀x,x<w.heap.size→x≠b→(sortWorldK (encA arr pre.length k xs.length) k w b pre.length m (sortIx c xs) os).heap[x]? = w.heap[x]? := fun x hx hne=>by
  rw[hheap x hx,if_neg (fun e=>hne e.symm)]
 have hix:=sortIx_size hO h0
 have hfl:=flat_len (ys:=sortBy c xs) (sortBy_len hO h0 hlen)
 have hfx:=flat_len hlen
 have hbl:(sortBy c xs).length=xs.length:=(sortBy_perm hO h0).length_eq
 rw[hbl] at hfl
 refine⟨.tuple #[],β,rfl,fun _ _ _=>rfl,⟨rfl,rfl,rfl,by rw[sortW_size];exact Nat.le_add_right _ _,fun x hx hM=>hother x hx (fun e=>hM ⟨y,hdy,e ▸ hb⟩),fun x hx => ?_,fun _=>Nat.le_add_right _ _⟩,⟨fun r sc hr => ?_,fun r r' _ h1 h2 _ _=>(hdq r h1).trans (hdq r' h2).symm⟩,.tup _ _ rfl (fun j c u hc=>by simp at hc),fun x q hx hnx=>absurd (by rw[hdq x hx];exact hdy) hnx⟩
 ·by_cases hxb:x=b
  ·subst hxb
   simp only[World.shape?,hbh,hg,Option.map_some,Sort.onCells]
   simp[Sort.putCells]
  ·exact shape_heap (hother x hx hxb)
 ·have hry:r=y:=hdq r (by unfold dom;rw[hr];rfl)
  subst hry
  simp only[Sto.get,Nat.beq_refl,cond_true] at hr
  injection hr with hr;subst hr
  refine⟨.inr ⟨b,_,el,hb,hbh,fun q e he => ?_⟩,fun b' hb' => ?_⟩
  ·have hmono:∀{p:PV} {u:Value},Rd I w p u→RE β (dom [(r,SC.pure (pre++(sortBy c xs).flatten++post))]) (fun b_1=>I b_1∨(fresh w (sortWorldK (encA arr pre.length k xs.length) k w b pre.length m (sortIx c xs) os) b_1∨Gvn [(r,SC.pure (pre++xs.flatten++post))] β b_1)∧∀x,dom [(r,SC.pure (pre++(sortBy c xs).flatten++post))] x→β x≠some b_1) (sortWorldK (encA arr pre.length k xs.length) k w b pre.length m (sortIx c xs) os) (.pv p) u :=
    fun h=>Rd.mono h (fun _ h => .inl h) (fun x o hx=>sortW_cell (hI x hx) (fun e=>hIb (by rw[←e];exact hx)) o)
   unfold SC.evs at he
   rw[List.getElem?_map] at he
   cases hp:(pre++(sortBy c xs).flatten++post)[q]? with
   |none=>rw[hp] at he;cases he
   |some p =>
    rw[hp] at he
    injection he with he;subst he
    unfold Sort.putCells
    rw[Array.getElem?_mapIdx,Sort.size_flatK,hix]
    by_cases h1:q<pre.length
    ·rw[List.append_assoc,List.getElem?_append_left h1] at hp
     obtain⟨u,g1,g2,g3⟩:=hcs q p (by rw[List.append_assoc,List.getElem?_append_left h1];exact hp)
     refine⟨u,?_,g2,hmono g3⟩
     rw[g1,Option.map_some,if_neg (by omega)]
    ·by_cases h2:q<pre.length+xs.length*k
     ·obtain⟨t,rfl⟩:∃t,q=pre.length+t:=⟨q-pre.length,by omega⟩
      rw[List.append_assoc,List.getElem?_append_right (by omega),Nat.add_sub_cancel_left,List.getElem?_append_left (by omega)] at hp
      obtain⟨row,r1,r2,r3⟩:=flat_inv (sortBy_len hO h0 hlen) hp
      unfold sortBy at r1
      rw[List.getElem?_map] at r1
      cases hz:(sortIx c xs).toList[t/k]? with
      |none=>rw[hz] at r1;cases r1
      |some z =>
       rw[hz] at r1
       injection r1 with r1
       have hzl:z<xs.length:=sortIx_lt hO h0 (List.mem_of_getElem? hz)
       have hzr:=getD_row (d:=[]) hzl
       have r1:xs.getD z []=row:=r1
       rw[r1] at hzr
       obtain⟨u,g1,g2,g3⟩:=hrow _ _ _ _ hzr r2
       refine⟨u,?_,g2,hmono g3⟩
       have hts:pre.length+t<arr.size:=by
        have:(pre++xs.flatten++post).length≤arr.size:=hsize
        simp only[List.length_append,hfx] at this
        omega
       rw[Array.getElem?_eq_getElem hts,Option.map_some,if_pos ⟨by omega,by omega⟩,Nat.add_sub_cancel_left]
       rw[Sort.get_flatK _ _ _ _ (by rw[hix];omega)]
       have e1:(sortIx c xs)[t/k]! = z:=by
        have:(sortIx c xs)[t/k]? = some z:=by simpa using hz
        rw[getElem!_def,this]
       rw[e1]
       have e2:=encA_get (arr:=arr) (off:=pre.length) (n:=xs.length) (x:=z) (Nat.mod_lt t hk0)
       rw[clN_id hzl,Array.getD_eq_getD_getElem?,g1] at e2
       rw[List.getElem!_eq_getElem?_getD,e2]
       rfl
     ·obtain⟨u,g1,g2,g3⟩:=hcs q p (by
       rw[List.getElem?_append_right (by rw[List.length_append,hfx];omega),List.length_append,hfx]
       rw[List.getElem?_append_right (by rw[List.length_append,hfl];omega),List.length_append,hfl] at hp
       exact hp)
      refine⟨u,?_,g2,hmono g3⟩
      rw[g1,Option.map_some,if_neg (by omega)]
  ·rw[hb] at hb';injection hb' with hb';subst hb'
   refine⟨by rw[sortW_size];omega,fun h => ?_⟩
   rcases h with h|⟨_,h⟩
   ·exact hIb h
   ·exact h r (by simp[dom,Sto.get]) hb
end
end Go.Proofs.YtbgkjomonebfcaaGreat.Sym
namespace Go.Proofs.YtbgkjomonebfcaaGreat.Sym.Lay
open Go Go.Shelf Go.Proofs
set_option maxRecDepth 20000
def sortRat_ren:Ren:=⟨fun n=>match n with|6=>145|14=>211|15=>212|20=>242|21=>243|22=>244|23=>245|24=>246|25=>247|26=>248|27=>249|28=>250|29=>251|46=>267|47=>268|48=>269|49=>270|50=>271|57=>279|n=>n,
 fun n=>match n with|0=>0|3=>3|4=>4|5=>5|9=>9|22=>22|24=>26|25=>50|39=>200|45=>218|46=>219|50=>223|53=>108|55=>203|66=>236|70=>240|76=>245|77=>120|n=>n,
 fun n=>n⟩
theorem sortRat : SlLaysF0.n6 Tryz.prog sortRat_ren where
  mixed := by kernel_rfl
  f6 := ⟨ "slices.SortFunc[[]linkwork/api.Rat,linkwork/api.Rat]", by decide, Tryz.func145.trans (congrArg some (by kernel_rfl))⟩
  f14 := ⟨ "slices.pdqsortCmpFunc[linkwork/api.Rat]", by decide, Tryz.func211.trans (congrArg some (by kernel_rfl))⟩
  f15 := Tryz.func212.trans (congrArg some (by kernel_rfl))
  f20 := ⟨ "slices.insertionSortCmpFunc[linkwork/api.Rat]", by decide, Tryz.func242.trans (congrArg some (by kernel_rfl))⟩
  f21 := ⟨ "slices.heapSortCmpFunc[linkwork/api.Rat]", by decide, Tryz.func243.trans (congrArg some (by kernel_rfl))⟩
  f22 := ⟨ "slices.breakPatternsCmpFunc[linkwork/api.Rat]", by decide, Tryz.func244.trans (congrArg some (by kernel_rfl))⟩
  f23 := ⟨ "slices.choosePivotCmpFunc[linkwork/api.Rat]", by decide, Tryz.func245.trans (congrArg some (by kernel_rfl))⟩
  f24 := ⟨ "slices.reverseRangeCmpFunc[linkwork/api.Rat]", by decide, Tryz.func246.trans (congrArg some (by kernel_rfl))⟩
  f25 := ⟨ "slices.partialInsertionSortCmpFunc[linkwork/api.Rat]", by decide, Tryz.func247.trans (congrArg some (by kernel_rfl))⟩
  f26 := ⟨ "slices.partitionEqualCmpFunc[linkwork/api.Rat]", by decide, Tryz.func248.trans (congrArg some (by kernel_rfl))⟩
  f27 := ⟨ "slices.partitionCmpFunc[linkwork/api.Rat]", by decide, Tryz.func249.trans (congrArg some (by kernel_rfl))⟩
  f28 := Tryz.func250.trans (congrArg some (by kernel_rfl))
  f29 := Tryz.func251.trans (congrArg some (by kernel_rfl))
  f46 := ⟨ "slices.siftDownCmpFunc[linkwork/api.Rat]", by decide, Tryz.func267.trans (congrArg some (by kernel_rfl))⟩
  f47 := Tryz.func268.trans (congrArg some (by kernel_rfl))
  f48 := Tryz.func269.trans (congrArg some (by kernel_rfl))
  f49 := ⟨ "slices.medianAdjacentCmpFunc[linkwork/api.Rat]", by decide, Tryz.func270.trans (congrArg some (by kernel_rfl))⟩
  f50 := ⟨ "slices.medianCmpFunc[linkwork/api.Rat]", by decide, Tryz.func271.trans (congrArg some (by kernel_rfl))⟩
  f57 := ⟨ "slices.order2CmpFunc[linkwork/api.Rat]", by decide, Tryz.func279.trans (congrArg some (by kernel_rfl))⟩
  t0 := Tryz.underlying0
  a0 := Tryz.isAgg0
  z0 := Tryz.sizeOf0
  v0 := Tryz.zeroValue0
  t3 := Tryz.underlying3
  a3 := Tryz.isAgg3
  z3 := Tryz.sizeOf3
  v3 := Tryz.zeroValue3
  t4 := Tryz.underlying4
  a4 := Tryz.isAgg4
  z4 := Tryz.sizeOf4
  v4 := Tryz.zeroValue4
  t5 := Tryz.underlying5
  a5 := Tryz.isAgg5
  z5 := Tryz.sizeOf5
  v5 := Tryz.zeroValue5
  t9 := Tryz.underlying9
  a9 := Tryz.isAgg9
  z9 := Tryz.sizeOf9
  v9 := Tryz.zeroValue9
  t22 := Tryz.underlying22
  a22 := Tryz.isAgg22
  z22 := Tryz.sizeOf22
  v22 := Tryz.zeroValue22
  t25 := Tryz.underlying50
  a25 := Tryz.isAgg50
  z25 := Tryz.sizeOf50
  v25 := Tryz.zeroValue50
  t39 := Tryz.underlying200
  a39 := Tryz.isAgg200
  z39 := Tryz.sizeOf200
  v39 := Tryz.zeroValue200
  t45 := Tryz.underlying218
  a45 := Tryz.isAgg218
  z45 := Tryz.sizeOf218
  v45 := Tryz.zeroValue218
  t46 := Tryz.underlying219
  a46 := Tryz.isAgg219
  z46 := Tryz.sizeOf219
  v46 := Tryz.zeroValue219
  t50 := Tryz.underlying223
  a50 := Tryz.isAgg223
  z50 := Tryz.sizeOf223
  v50 := Tryz.zeroValue223
  t53 := Tryz.underlying108
  a53 := Tryz.isAgg108
  z53 := Tryz.sizeOf108
  v53 := Tryz.zeroValue108
  t55 := Tryz.underlying203
  a55 := Tryz.isAgg203
  z55 := Tryz.sizeOf203
  v55 := Tryz.zeroValue203
  t66 := Tryz.underlying236
  a66 := Tryz.isAgg236
  z66 := Tryz.sizeOf236
  v66 := Tryz.zeroValue236
  t70 := Tryz.underlying240
  a70 := Tryz.isAgg240
  z70 := Tryz.sizeOf240
  v70 := Tryz.zeroValue240
  t76 := Tryz.underlying245
  a76 := Tryz.isAgg245
  z76 := Tryz.sizeOf245
  v76 := Tryz.zeroValue245
  t77 := Tryz.underlying120
  a77 := Tryz.isAgg120
  z77 := Tryz.sizeOf120
  v77 := Tryz.zeroValue120
end Go.Proofs.YtbgkjomonebfcaaGreat.Sym.Lay
namespace Go.Proofs.YtbgkjomonebfcaaGreat.Sym
open Go Path CInt
set_option linter.unusedVariables false
def insR(x:Rat):List Rat→List Rat
 |[]=>[x]
 |a::r=>if a<x then a::insR x r else if a=x then a::r else x::a::r
theorem insR_mem{x y:Rat} : ∀{l:List Rat},y∈insR x l↔y=x∨y∈l
 |[]=>by simp[insR]
 |a::r=>by
  rw[insR]
  split
  ·rw[List.mem_cons,insR_mem (l:=r),List.mem_cons]
   constructor
   ·rintro (h|h|h)
    ·exact .inr (.inl h)
    ·exact .inl h
    ·exact .inr (.inr h)
   ·rintro (h|h|h)
    ·exact .inr (.inl h)
    ·exact .inl h
    ·exact .inr (.inr h)
  ·split
   ·rename_i h
    subst h
    simp
   ·simp
theorem insR_asc{x:Rat} : ∀{l:List Rat},l.Pairwise (·<·)→(insR x l).Pairwise (·<·)
 |[],_=>List.pairwise_singleton _ _
 |a::r,h=>by
  have h1:=(List.pairwise_cons.1 h).1
  have h2:=(List.pairwise_cons.1 h).2
  rw[insR]
  split
  ·rename_i hx
   refine List.pairwise_cons.2 ⟨fun y hy => ?_,insR_asc h2⟩
   rcases insR_mem.1 hy with e|hy
   ·rw[e];exact hx
   ·exact h1 y hy
  ·split
   ·exact h
   ·rename_i n1 n2
    have hxa:x<a:=by grind
    refine List.pairwise_cons.2 ⟨fun y hy => ?_,h⟩
    rcases List.mem_cons.1 hy with e|hy
    ·rw[e];exact hxa
    ·have:=h1 y hy;grind
def shB(bs:List Rat)(byV:Rat):List Rat:=bs.foldl (fun acc b=>insR (frac (b+byV)) acc) [0]
theorem foldIns_mem{byV y:Rat} : ∀{bs acc:List Rat},y∈bs.foldl (fun acc b=>insR (frac (b+byV)) acc) acc↔y∈acc∨∃b∈bs,y=frac (b+byV)
 |[],acc=>by simp
 |b::bs,acc=>by
  rw[List.foldl_cons,foldIns_mem (bs:=bs),insR_mem]
  constructor
  ·rintro ((h|h)|⟨c,hc,h⟩)
   ·exact .inr ⟨b,List.mem_cons_self ..,h⟩
   ·exact .inl h
   ·exact .inr ⟨c,List.mem_cons_of_mem _ hc,h⟩
  ·rintro (h|⟨c,hc,h⟩)
   ·exact .inl (.inr h)
   ·rcases List.mem_cons.1 hc with e|hc
    ·subst e;exact .inl (.inl h)
    ·exact .inr ⟨c,hc,h⟩
theorem foldIns_asc{byV:Rat} : ∀{bs acc:List Rat},acc.Pairwise (·<·)→(bs.foldl (fun acc b=>insR (frac (b+byV)) acc) acc).Pairwise (·<·)
 |[],acc,h=>h
 |b::bs,acc,h=>foldIns_asc (bs:=bs) (insR_asc h)
theorem shB_mem{bs:List Rat}{byV y:Rat} : y∈shB bs byV↔y=0∨∃b∈bs,y=frac (b+byV):=by
 unfold shB;rw[foldIns_mem];simp
theorem shB_asc(bs:List Rat)(byV:Rat):(shB bs byV).Pairwise (·<·):=foldIns_asc (List.pairwise_singleton _ _)
theorem shB_unit{bs:List Rat}{byV y:Rat}(h:y∈shB bs byV):0≤y∧y<1:=by
 rcases shB_mem.1 h with e|⟨b,_,e⟩
 ·subst e;exact⟨Rat.le_refl,by decide⟩
 ·rw[e];exact⟨frac_ge _,frac_lt _⟩
theorem asc_uniq:∀{l m:List Rat},l.Pairwise (·<·)→m.Pairwise (·<·)→(∀y,y∈l↔y∈m)→l=m
 |[],[],_,_,_=>rfl
 |[],b::m,_,_,h=>by have:=(h b).2 (List.mem_cons_self ..);cases this
 |a::l,[],_,_,h=>by have:=(h a).1 (List.mem_cons_self ..);cases this
 |a::l,b::m,hl,hm,h=>by
  have l1:=(List.pairwise_cons.1 hl).1
  have m1:=(List.pairwise_cons.1 hm).1
  have e:a=b:=by
   have h1:=(h a).1 (List.mem_cons_self ..)
   have h2:=(h b).2 (List.mem_cons_self ..)
   rcases List.mem_cons.1 h1 with e|h1
   ·exact e
   ·rcases List.mem_cons.1 h2 with e|h2
    ·exact e.symm
    ·have:=m1 a h1;have:=l1 b h2;grind
  subst e
  congr 1
  refine asc_uniq (List.pairwise_cons.1 hl).2 (List.pairwise_cons.1 hm).2 (fun y => ?_)
  constructor
  ·intro hy
   rcases List.mem_cons.1 ((h y).1 (List.mem_cons_of_mem _ hy)) with e|k
   ·have:=l1 y hy;rw[e] at this;exact absurd this Rat.lt_irrefl
   ·exact k
  ·intro hy
   rcases List.mem_cons.1 ((h y).2 (List.mem_cons_of_mem _ hy)) with e|k
   ·have:=m1 y hy;rw[e] at this;exact absurd this Rat.lt_irrefl
   ·exact k
def addR(acc:List Rat)(x:Rat):List Rat:=if x∈acc then acc else acc++[x]
def gaB(bs:List Rat)(byV:Rat):List Rat:=bs.foldl (fun acc b=>addR acc (frac (b+byV))) [0]
theorem addR_mem{acc:List Rat}{x y:Rat} : y∈addR acc x↔y=x∨y∈acc:=by
 unfold addR
 split
 ·rename_i h
  constructor
  ·exact .inr
  ·rintro (e|k)
   ·rw[e];exact h
   ·exact k
 ·rw[List.mem_append,List.mem_singleton,or_comm]
theorem addR_nodup{acc:List Rat}{x:Rat}(h:acc.Nodup):(addR acc x).Nodup:=by
 unfold addR
 split
 ·exact h
 ·rename_i hx
  rw[List.nodup_append]
  refine⟨h,by simp,fun a ha b hb => ?_⟩
  rw[List.mem_singleton.1 hb]
  intro e;exact hx (e ▸ ha)
theorem foldAdd_mem{byV y:Rat} : ∀{bs acc:List Rat},y∈bs.foldl (fun acc b=>addR acc (frac (b+byV))) acc↔y∈acc∨∃b∈bs,y=frac (b+byV)
 |[],acc=>by simp
 |b::bs,acc=>by
  rw[List.foldl_cons,foldAdd_mem (bs:=bs),addR_mem]
  constructor
  ·rintro ((h|h)|⟨c,hc,h⟩)
   ·exact .inr ⟨b,List.mem_cons_self ..,h⟩
   ·exact .inl h
   ·exact .inr ⟨c,List.mem_cons_of_mem _ hc,h⟩
  ·rintro (h|⟨c,hc,h⟩)
   ·exact .inl (.inr h)
   ·rcases List.mem_cons.1 hc with e|hc
    ·subst e;exact .inl (.inl h)
    ·exact .inr ⟨c,hc,h⟩
theorem foldAdd_nodup{byV:Rat} : ∀{bs acc:List Rat},acc.Nodup→(bs.foldl (fun acc b=>addR acc (frac (b+byV))) acc).Nodup
 |[],acc,h=>h
 |b::bs,acc,h=>foldAdd_nodup (bs:=bs) (addR_nodup h)
theorem gaB_mem{bs:List Rat}{byV y:Rat} : y∈gaB bs byV↔y=0∨∃b∈bs,y=frac (b+byV):=by
 unfold gaB;rw[foldAdd_mem];simp
theorem gaB_nodup(bs:List Rat)(byV:Rat):(gaB bs byV).Nodup:=foldAdd_nodup (by simp)
theorem gaB_sorted{bs:List Rat}{byV:Rat}{z:List Rat}(hp:z.Perm (gaB bs byV))(hs:z.Pairwise fun a b=>a≤b):z=shB bs byV:=by
 have hn:z.Nodup:=hp.nodup_iff.2 (gaB_nodup bs byV)
 have hlt:z.Pairwise (·<·):=(hs.and hn).imp (fun {a b} h=>by have h1:=h.1;have h2:a≠b:=h.2;grind)
 refine asc_uniq hlt (shB_asc _ _) (fun y => ?_)
 rw[hp.mem_iff,gaB_mem,shB_mem]
theorem gaB_shB_len(bs:List Rat)(byV:Rat):(gaB bs byV).length=(shB bs byV).length:=by
 have h1:((gaB bs byV).mergeSort fun a b=>decide (a≤b)).Perm (gaB bs byV):=List.mergeSort_perm _ _
 have h2:=List.pairwise_mergeSort (le:=fun a b:Rat=>decide (a≤b)) (fun a b c h k=>decide_eq_true (Rat.le_trans (of_decide_eq_true h) (of_decide_eq_true k))) (fun a b=>by
  rcases Rat.le_total (a:=a) (b:=b) with h|h
  ·rw[decide_eq_true h];rfl
  ·rw[decide_eq_true h,Bool.or_true]) (gaB bs byV)
 rw[←gaB_sorted h1 (h2.imp (fun h=>of_decide_eq_true h))]
 exact h1.length_eq.symm
def shP(l:ALaw)(x:Rat):List Rat:=trimL (compL (pcW l (pieceL (vals l.breaks) x)) [x-brkW l (pieceL (vals l.breaks) x),1])
def shW(l:ALaw)(byV:Rat):ALaw:=⟨(shB (vals l.breaks) byV).map mkR,(shB (vals l.breaks) byV).map (fun b=>(shP l (frac (b-byV))).map mkR)⟩
theorem mulL_len2(d:Rat):∀p:List Rat,p≠[]→(mulL p [d,1]).length=p.length+1
 |[],h=>absurd rfl h
 |[a],_=>rfl
 |a::b::p,_=>by
  have h:=mulL_len2 d (b::p) (by simp)
  rw[mulL,len_addL,len_smulL]
  simp only[List.length_cons,List.length_nil] at h ⊢;omega
theorem compL_len2(d:Rat):∀p:List Rat,(compL p [d,1]).length=p.length
 |[]=>rfl
 |a::p=>by
  rw[compL,len_addL]
  cases p with
  |nil=>rfl
  |cons b p =>
   have ih:=compL_len2 d (b::p)
   have hne:compL (b::p) [d,1]≠[]:=by intro e;rw[e] at ih;cases ih
   rw[mulL_len2 d _ hne,ih]
   simp only[List.length_cons,List.length_nil];omega
theorem shP_len(l:ALaw)(g:Good l)(x:Rat):(shP l x).length≤9:=by
 unfold shP
 have h1:=len_trimL (compL (pcW l (pieceL (vals l.breaks) x)) [x-brkW l (pieceL (vals l.breaks) x),1])
 rw[compL_len2] at h1
 have h2:=pcW_len g (pieceL (vals l.breaks) x)
 omega
theorem shP_eval(l:ALaw)(x t:Rat):evalL (shP l x) t=evalL (pcW l (pieceL (vals l.breaks) x)) (t+(x-brkW l (pieceL (vals l.breaks) x))):=by
 unfold shP
 rw[evalL_trimL,evalL_compL]
 congr 1
 show(0*t+1)*t+_=_
 grind
theorem frac_eq{x y:Rat}(n:Int)(h:x=y+n)(h0:0≤y)(h1:y<1):frac x=y:=by rw[h,frac_add,frac_id h0 h1]
section
variable {l:ALaw} {byV:Rat}
theorem shW_vals(l:ALaw)(byV:Rat):vals (shW l byV).breaks=shB (vals l.breaks) byV:=vals_mkR _
theorem shW_brk{j:Nat}{b:Rat}(h:(shB (vals l.breaks) byV)[j]? = some b):brkW (shW l byV) j=b:=by
 rw[brkW_of (b:=mkR b) (by unfold shW;rw[List.getElem?_map,h];rfl),mkR_val]
theorem shW_pc{j:Nat}{b:Rat}(h:(shB (vals l.breaks) byV)[j]? = some b):pcW (shW l byV) j=shP l (frac (b-byV)):=by
 rw[pcW_of (p:=(shP l (frac (b-byV))).map mkR) (by unfold shW;rw[List.getElem?_map,h];rfl),vals_mkR]
theorem shW_len:(shW l byV).breaks.length=(shB (vals l.breaks) byV).length∧(shW l byV).pieces.length=(shB (vals l.breaks) byV).length:=by
 unfold shW;simp
theorem chkB_some:∀(bs:List Rat) (q:Rat),(∀b∈bs,0≤b∧b<1)→bs.Pairwise (·<·)→(∀b∈bs,q<b)→chkB (some q) (bs.map mkR)=0
 |[],q,_,_,_=>rfl
 |b::r,q,h1,h2,h3=>by
  have hb:=h1 b (List.mem_cons_self ..)
  have hq:=h3 b (List.mem_cons_self ..)
  rw[List.map_cons,chkB,outB_no (mkR_valid b) (by rw[mkR_val];grind) (by rw[mkR_val];grind),cond_false]
  rw[show badB (some q) (mkR b).val=false from by rw[mkR_val];exact decide_eq_false (by grind),cond_false,mkR_val]
  exact chkB_some r b (fun c hc=>h1 c (List.mem_cons_of_mem _ hc)) (List.pairwise_cons.1 h2).2 (List.pairwise_cons.1 h2).1
theorem shB_head(bs:List Rat)(byV:Rat):∃r,shB bs byV=0::r:=by
 have h0:(0:Rat)∈shB bs byV:=shB_mem.2 (.inl rfl)
 have ha:=shB_asc bs byV
 cases h:shB bs byV with
 |nil=>rw[h] at h0;cases h0
 |cons a r =>
  rw[h] at h0 ha
  rcases List.mem_cons.1 h0 with e|k
  ·exact⟨r,by rw[e]⟩
  ·have h1:=(List.pairwise_cons.1 ha).1 0 k
   have h2:=(shB_unit (bs:=bs) (byV:=byV) (y:=a) (by rw[h];exact List.mem_cons_self ..)).1
   grind
theorem chk_shift(g:Good l)(h16:(shB (vals l.breaks) byV).length≤16):chkLaw (shW l byV)=0:=by
 obtain⟨r,hr⟩:=shB_head (vals l.breaks) byV
 have hne:(shB (vals l.breaks) byV).length≠0:=by rw[hr];simp
 obtain⟨e1,e2⟩:=shW_len (l:=l) (byV:=byV)
 unfold chkLaw
 rw[if_neg (by rw[e1,e2];omega),if_neg (by rw[e1];omega)]
 unfold chkR
 have hb:chkB none (shW l byV).breaks=0:=by
  have hu:∀b∈shB (vals l.breaks) byV,0≤b∧b<1:=fun b hb=>shB_unit hb
  have ha:=shB_asc (vals l.breaks) byV
  show chkB none ((shB (vals l.breaks) byV).map mkR)=0
  rw[hr] at hu ha ⊢
  rw[List.map_cons,chkB,outB_no (mkR_valid 0) (by rw[mkR_val];exact Rat.lt_irrefl) (by rw[mkR_val];decide),cond_false]
  rw[show badB none (mkR 0).val=false from by rw[mkR_val];show decide ((0:Rat)≠0)=false;exact decide_eq_false (fun h=>h rfl),cond_false,mkR_val]
  exact chkB_some r 0 (fun b hb=>hu b (List.mem_cons_of_mem _ hb)) (List.pairwise_cons.1 ha).2 (List.pairwise_cons.1 ha).1
 rw[hb]
 refine chkP_of (fun p hp => ?_)
 obtain⟨b,_,rfl⟩:=List.mem_map.1 hp
 have h9:=shP_len l g (frac (b-byV))
 exact⟨chk_map (lastZ_trimL _) (by omega),by rw[List.length_map];omega⟩
theorem sh_in(g:Good l){j:Nat}{b:Rat}(hj:(shB (vals l.breaks) byV)[j]? = some b) :
  endW (shW l byV) j-b≤endW l (pieceL (vals l.breaks) (frac (b-byV)))-frac (b-byV):=by
 refine Classical.byContradiction fun hn => ?_
 obtain⟨s1,s2,s3⟩:=piece_spec g (frac_ge (b-byV)) (frac_lt (b-byV))
 have hx:frac (b-byV)=b-byV-((b-byV).floor:Rat):=rfl
 generalize hxx:frac (b-byV)=x at *
 generalize pieceL (vals l.breaks) x=i at *
 have hbu:=shB_unit (List.mem_of_getElem? hj)
 have hasc:=shB_asc (vals l.breaks) byV
 have hnext:∀u,u∈shB (vals l.breaks) byV→b<u→endW (shW l byV) j≤u:=by
  intro u hu hbu'
  obtain⟨m,hm,hmu⟩:=List.getElem_of_mem hu
  have hjl:=(List.getElem?_eq_some_iff.1 hj).1
  have hjb:=(List.getElem?_eq_some_iff.1 hj).2
  have hjm:j<m:=by
   rcases Nat.lt_trichotomy j m with h|h|h
   ·exact h
   ·subst h;rw[hjb] at hmu;rw[hmu] at hbu';exact absurd hbu' Rat.lt_irrefl
   ·have:=List.pairwise_iff_getElem.1 hasc m j hm hjl h
    rw[hmu,hjb] at this;grind
  have hj1:j+1<(shB (vals l.breaks) byV).length:=by omega
  have he:endW (shW l byV) j=(shB (vals l.breaks) byV)[j+1]:=by
   rw[endW_next (by rw[shW_len.1];exact hj1)]
   exact shW_brk (List.getElem?_eq_getElem hj1)
  rw[he]
  by_cases e:j+1=m
  ·subst e;rw[hmu];exact Rat.le_refl
  ·have:=List.pairwise_iff_getElem.1 hasc (j+1) m hj1 hm (by omega)
   rw[hmu] at this;exact Rat.le_of_lt this
 have he1:endW (shW l byV) j≤1:=by
  unfold endW
  cases hb:(shW l byV).breaks[j+1]? with
  |none=>exact Rat.le_refl
  |some c =>
   have hc:=List.mem_of_getElem? hb
   obtain⟨d,hd,rfl⟩:=List.mem_map.1 (show c∈(shB (vals l.breaks) byV).map mkR from hc)
   show(mkR d).val≤1
   rw[mkR_val];exact Rat.le_of_lt (shB_unit hd).2
 have hu:b+(endW l i-x)∈shB (vals l.breaks) byV:=by
  refine shB_mem.2 (.inr ?_)
  by_cases hi:i+1<l.breaks.length
  ·obtain⟨c,hc⟩:∃c,l.breaks[i+1]? = some c:=⟨_,List.getElem?_eq_getElem hi⟩
   refine⟨c.val,List.mem_map.2 ⟨c,List.mem_of_getElem? hc,rfl⟩,?_⟩
   have ee:endW l i=c.val:=by unfold endW;rw[hc]
   rw[ee] at s3 hn ⊢
   refine(frac_eq (-(b-byV).floor) ?_ (by grind) (by grind)).symm
   rw[Rat.intCast_neg];grind
  ·have hn0:=g.n0
   obtain⟨c,hc⟩:∃c,l.breaks[0]? = some c:=⟨_,List.getElem?_eq_getElem (by omega)⟩
   have h0:=g.first c hc
   refine⟨c.val,List.mem_map.2 ⟨c,List.mem_of_getElem? hc,rfl⟩,?_⟩
   have ee:endW l i=1:=by unfold endW;rw[List.getElem?_eq_none (by omega)];rfl
   rw[ee] at s3 hn ⊢
   refine(frac_eq (-(b-byV).floor-1) ?_ (by grind) (by grind)).symm
   rw[h0,Rat.intCast_sub,Rat.intCast_neg]
   have:((1:Int):Rat)=1:=rfl
   grind
 have:=hnext _ hu (by grind)
 grind
end
end Go.Proofs.YtbgkjomonebfcaaGreat.Sym
namespace Go.Proofs.YtbgkjomonebfcaaGreat.Sym
open Go Path CInt
set_option linter.unusedVariables false
def unW:List PV→UInt32
 |[.int _ n]=>UInt32.ofNat n.toNat
 |_=>0
def unR:List PV→Rat
 |[.bool s,.list n,.list d]=>ARat.val ⟨s,n.map unW,d.map unW⟩
 |_=>0
theorem unW_map(l:Words):(l.map wordPV).map unW=l:=by
 rw[List.map_map]
 conv=>rhs;rw[←List.map_id l]
 refine List.map_congr_left (fun w _ => ?_)
 show UInt32.ofNat (w.toNat:Int).toNat=w
 rw[Int.toNat_natCast]
 exact UInt32.ofNat_toNat
theorem unR_cells(a:ARat):unR a.cells=a.val:=by
 show ARat.val ⟨a.neg,(a.num.map wordPV).map unW,(a.den.map wordPV).map unW⟩=a.val
 rw[unW_map,unW_map]
def cRat(x y:List PV):Int:=cmpR (unR x) (unR y)
theorem swo_rat(xs:List (List PV)):Swo cRat xs where
 irrefl a _ h:=absurd (cmpR_lt.1 h) Rat.lt_irrefl
 trans a _ b _ c _ h1 h2:=by
  have h1:=cmpR_lt.1 h1
  have h2:=cmpR_lt.1 h2
  exact cmpR_lt.2 (by grind)
 ntrans a _ b _ c _ h1 h2 h3:=by
  have h1:¬unR a<unR b:=fun h=>h1 (cmpR_lt.2 h)
  have h2:¬unR b<unR c:=fun h=>h2 (cmpR_lt.2 h)
  have h3:=cmpR_lt.1 h3
  grind
theorem sort_list(L:List ARat)(h0:0<L.length):∃Z:List ARat,Z.Perm L∧sortBy cRat (L.map ARat.cells)=Z.map ARat.cells∧Z.Pairwise fun a b=>a.val≤b.val:=by
 have h0':0<(L.map ARat.cells).length:=by rw[List.length_map];exact h0
 have hO:=swo_rat (L.map ARat.cells)
 have he:sortBy cRat (L.map ARat.cells)=((sortIx cRat (L.map ARat.cells)).toList.map (L.getD · ⟨false,[],[]⟩)).map ARat.cells:=by
  unfold sortBy
  rw[List.map_map]
  refine List.map_congr_left (fun i hi => ?_)
  have hil:=sortIx_lt hO h0' hi
  rw[List.length_map] at hil
  show(L.map ARat.cells).getD i []=(L.getD i ⟨false,[],[]⟩).cells
  rw[List.getD_eq_getElem?_getD,List.getElem?_map,List.getElem?_eq_getElem hil,List.getD_eq_getElem?_getD,List.getElem?_eq_getElem hil]
  rfl
 refine⟨_,?_,he,?_⟩
 ·have:=(sortIx_spec hO h0').1.map (L.getD · (⟨false,[],[]⟩:ARat))
  rw[List.length_map,range_getD] at this
  exact this
 ·have:=sortBy_sorted hO h0'
  rw[he,List.pairwise_map] at this
  refine this.imp (fun {a b} h => ?_)
  have h:¬cmpR (unR b.cells) (unR a.cells)<0:=h
  rw[unR_cells,unR_cells] at h
  have:¬b.val<a.val:=fun k=>h (cmpR_lt.2 k)
  grind
theorem callable_of {P : Program} {f : FuncId} {fn : Func} (h : P.funcs[f]? = some fn) (hb : (fn.body.isSome && !(fn.name == "runtime.NumGoroutine")) = true) : Callable P f := by
  rw [Bool.and_eq_true, Bool.not_eq_true'] at hb
  exact ⟨fn, h, hb.1, hb.2⟩
namespace CLw
theorem SortFunc(L:List ARat)(h0:0<L.length)(hsz:L.length<4611686018427387904)(hf:∀a∈L,FitR a) :
  ∃Z:List ARat,Z.Perm L∧(Z.Pairwise fun a b=>a.val≤b.val)∧ContractX prg 145 [.row 100000 0 L.length 3,.pv (.fn 29)] [(100000,(.pure ((L:List ARat).map ARat.cells).flatten))] (.pv (.tup [])) [(100000,(.pure ((Z:List ARat).map ARat.cells).flatten))]:=by
 obtain⟨Z,h1,h2,h3⟩:=sort_list L h0
 have h:=sort_fn (P:=prg) (ρ:=Lay.sortRat_ren) (k:=3) (n:=L.length) (xs:=L.map ARat.cells) (c:=cRat) (by unfold Str;trivial) Lay.sortRat (callable_of Tryz.func145 (by kernel_rfl)) Tryz.isAgg26 Tryz.sizeOf26 [] [] 100000 (fun row hr=>by obtain⟨a,_,rfl⟩:=List.mem_map.1 hr;rfl) (by rw[List.length_map]) h0 (by omega) hsz (swo_rat _) (g:=29) (fun a ha b hb=>by
  obtain⟨x,hx,rfl⟩:=List.mem_map.1 ha
  obtain⟨y,hy,rfl⟩:=List.mem_map.1 hb
  have:=CFr.Cmp x y (hf x hx) (hf y hy)
  show Contract prg 29 [x.pv,y.pv] (.int .i64 (cmpR (unR x.cells) (unR y.cells)))
  rw[unR_cells,unR_cells]
  exact this)
 rw[List.nil_append,List.append_nil,List.nil_append,List.append_nil,h2] at h
 exact⟨Z,h1,h3,h⟩
theorem Shift1(y x:ARat)(hy:FitR y)(hx:FitR x):ContractX prg 144 [.pv y.pv,.ptr 100001 0] [(100001,(.lit [(eB x.neg),(.pv (wordsPV x.num)),(.pv (wordsPV x.den))]))] (.pv (vB (cmpR x.val y.val==0))) [(100001,(.lit [(eB x.neg),(.pv (wordsPV x.num)),(.pv (wordsPV x.den))]))] :=
 law_Shift_1.e0 y x _ (CFr.Cmp x y hx hy)
def idxR(v:Rat):Nat→List ARat→Int
 |_,[] => -1
 |t,a::r=>if v=a.val then (t:Int) else idxR v (t+1) r
theorem idxR_ge(v:Rat):∀(l:List ARat) (t:Nat),0≤idxR v t l↔v∈vals l
 |[],t=>by
  constructor
  ·intro h
   have:(0:Int) ≤ -1:=h
   omega
  ·intro h;cases h
 |a::r,t=>by
  rw[idxR]
  show _↔v∈a.val::vals r
  rw[List.mem_cons]
  split
  ·rename_i h
   exact⟨fun _ => .inl h,fun _=>by omega⟩
  ·rename_i h
   rw[idxR_ge v r (t+1)]
   exact⟨.inr,fun k=>k.resolve_left h⟩
theorem Index(s:List ARat)(f:ARat)(hs:∀a∈s,FitR a)(hf:FitR f)(hl:s.length<4611686018427387904) :
  ContractX prg 210 [.row 100000 0 s.length 3,.clo 144 100001] [(100000,(.pure ((s:List ARat).map ARat.cells).flatten)),(100001,(.lit [(eB f.neg),(.pv (wordsPV f.num)),(.pv (wordsPV f.den))]))] (.pv (vI (idxR f.val 0 s))) [(100000,(.pure ((s:List ARat).map ARat.cells).flatten)),(100001,(.lit [(eB f.neg),(.pv (wordsPV f.num)),(.pv (wordsPV f.den))]))]:=by
 refine slices_IndexFunc_Rat.e0 s s.length f ?_
 have loop:∀(j t:Nat),s.length-t=j→t≤s.length→slices_IndexFunc_Rat.Loop1 s.length f t s [(100000,(.pure ((s:List ARat).map ARat.cells).flatten)),(100001,(.lit [(eB f.neg),(.pv (wordsPV f.num)),(.pv (wordsPV f.den))]))] (.pv (vI (idxR f.val t (s.drop t)))) [(100000,(.pure ((s:List ARat).map ARat.cells).flatten)),(100001,(.lit [(eB f.neg),(.pv (wordsPV f.num)),(.pv (wordsPV f.den))]))]:=by
  intro j
  induction j with
  |zero =>
   intro t hj ht
   rw[List.drop_of_length_le (by omega)]
   exact slices_IndexFunc_Rat.l12 s.length f t s rfl rfl (by omega)
  |succ j ih =>
   intro t hj ht
   obtain⟨v,hv⟩:∃v,s[t]? = some v:=⟨_,List.getElem?_eq_getElem (by omega)⟩
   have hc:=Shift1 v f (hs v (List.mem_of_getElem? hv)) hf
   rw[drop_cons hv,idxR]
   by_cases e:f.val=v.val
   ·rw[if_pos e]
    exact slices_IndexFunc_Rat.l10 s.length f t s v _ rfl rfl (by omega) hv hc (by rw[cmpR_eq.2 e];rfl)
   ·rw[if_neg e]
    exact slices_IndexFunc_Rat.l11 s.length f t s v _ rfl (by omega) hv hc (by simpa using fun h=>e (cmpR_eq.1 h)) (by omega) (ih (t+1) (by omega) (by omega))
 have:=loop _ 0 rfl (Nat.zero_le _)
 rwa[List.drop_zero] at this
theorem Contains(s:List ARat)(f:ARat)(hs:∀a∈s,FitR a)(hf:FitR f)(hl:s.length<4611686018427387904) :
  ContractX prg 143 [.row 100000 0 s.length 3,.clo 144 100001] [(100000,(.pure ((s:List ARat).map ARat.cells).flatten)),(100001,(.lit [(eB f.neg),(.pv (wordsPV f.num)),(.pv (wordsPV f.den))]))] (.pv (vB (decide (f.val∈vals s)))) [(100000,(.pure ((s:List ARat).map ARat.cells).flatten)),(100001,(.lit [(eB f.neg),(.pv (wordsPV f.num)),(.pv (wordsPV f.den))]))]:=by
 have h:=slices_ContainsFunc_Rat.e0 s s.length f s _ (Index s f hs hf hl)
 rwa[show decide (idxR f.val 0 s≥0)=decide (f.val∈vals s) from by simp only[ge_iff_le,idxR_ge]] at h
theorem cB_le(n a b:Nat)(hn:1≤n){i j:Nat}(h:i≤j):cB n a b i≤cB n a b j:=by
 induction h with
 |refl=>exact Nat.le_refl _
 |step _ ih=>exact Nat.le_trans ih (cB_mono n a b hn _)
theorem lastW{l:ALaw}(g:Good l)(t:Nat):lastZ (pcW l t)=false:=by
 unfold pcW
 cases h:l.pieces[t]? with
 |some p=>exact chk_last (g.ps p (List.mem_of_getElem? h)).1
 |none=>rfl
theorem lastZ_d1(d:Rat):lastZ [d,1]=false:=by
 have:=lastZ_trimL [d,1]
 rwa[show trimL [d,1]=[d,1] from by simp[trimL]] at this
theorem trimL_d1(d:Rat):trimL [d,1]=[d,1]:=by simp[trimL]
def shiftPV(l:ALaw)(byV:Rat):PV:=if 16<(shB (vals l.breaks) byV).length then .tup [(⟨[],[]⟩:ALaw).pv,errPV (some 4)] else .tup [(shW l byV).pv,.nilI]
theorem sh_ht{l:ALaw}{byV b:Rat}(hf:FitW 64 l)(hby:ht byV≤64)(hb:b∈shB (vals l.breaks) byV):ht b≤260:=by
 rcases shB_mem.1 hb with e|⟨c,hc,e⟩
 ·rw[e,ht_zero];omega
 ·obtain⟨a,ha,rfl⟩:=List.mem_map.1 hc
  have h1:=ht_fit (hf.1 a ha).1 (hf.1 a ha).2 (by omega)
  have h2:=ht_add a.val byV
  have h3:=ht_frac (x:=a.val+byV) (k:=129) (by omega)
  rw[e];omega
theorem Shift(l:ALaw)(byV:ARat)(hc:chkLaw l=0)(hf:FitW 64 l)(hv:byV.valid=true)(hby:byV.num.length≤64∧byV.den.length≤64):Contract prg 67 [l.pv,byV.pv] (shiftPV l byV.val):=by
 have g:=good_of hc
 have hle:=g.le
 have hck:=Check l ⟨fun a ha=>⟨by have:=(hf.1 a ha).1;omega,by have:=(hf.1 a ha).2;omega⟩,fun p hp a ha=>⟨by have:=(hf.2 p hp a ha).1;omega,by have:=(hf.2 p hp a ha).2;omega⟩⟩
 rw[hc] at hck
 have hval:=CFr.Valid byV ⟨by omega,by omega⟩
 rw[hv] at hval
 have hbh:=ht_fit hby.1 hby.2 (by omega)
 have hlb:(vals l.breaks).length=l.breaks.length:=List.length_map ..
 have hzero:(⟨false,[],[]⟩:ARat)=mkR 0:=rfl
 have loop2:∀(j t:Nat),(shB (vals l.breaks) byV.val).length-t=j→t≤(shB (vals l.breaks) byV.val).length→(shB (vals l.breaks) byV.val).length≤17 →
   law_Shift.Loop2 ((shB (vals l.breaks) byV.val).map mkR) t l byV (((shB (vals l.breaks) byV.val).take t).map (fun b=>(shP l (frac (b-byV.val))).map mkR)) (.tup [(shW l byV.val).pv,.nilI]):=by
  intro j
  induction j with
  |zero =>
   intro t hj ht h17
   have e:(shB (vals l.breaks) byV.val).take t=shB (vals l.breaks) byV.val:=List.take_of_length_le (by omega)
   rw[e]
   exact law_Shift.l23 _ t l byV _ (by rw[List.length_map];omega)
  |succ j ih =>
   intro t hj ht h17
   obtain⟨b,hb⟩:∃b,(shB (vals l.breaks) byV.val)[t]? = some b:=⟨_,List.getElem?_eq_getElem (by omega)⟩
   have hz:((shB (vals l.breaks) byV.val).map mkR)[t]? = some (mkR b):=by rw[List.getElem?_map,hb];rfl
   have b0:=sh_ht hf hbh (List.mem_of_getElem? hb)
   have s1:=CFr.Sub (mkR b) byV (fit_mkR (by omega)) ⟨by omega,by omega⟩
   rw[mkR_val] at s1
   have b1:=ht_sub b byV.val
   have f1:=fit_mkRk (q:=b-byV.val) (k:=325) (by omega)
   have w1:=wrapped (mkR (b-byV.val)) ⟨by omega,by omega⟩
   rw[mkR_val] at w1
   have b2:=ht_frac (x:=b-byV.val) (k:=325) (by omega)
   have f2:=fit_mkRk (q:=frac (b-byV.val)) (k:=652) (by omega)
   have p1:=piece l (mkR (frac (b-byV.val))) g (fun a ha=>⟨by have:=(hf.1 a ha).1;omega,by have:=(hf.1 a ha).2;omega⟩) ⟨by omega,by omega⟩ (by rw[mkR_val];exact frac_ge _)
   rw[mkR_val] at p1
   obtain⟨q1,q2,q3⟩:=piece_spec g (frac_ge (b-byV.val)) (frac_lt (b-byV.val))
   have hsh:shP l (frac (b-byV.val))=trimL (compL (pcW l (pieceL (vals l.breaks) (frac (b-byV.val)))) [frac (b-byV.val)-brkW l (pieceL (vals l.breaks) (frac (b-byV.val))),1]):=rfl
   generalize hx:frac (b-byV.val)=x at *
   generalize hk:pieceL (vals l.breaks) x=k at *
   obtain⟨v1,v2,hv1,hv2,e1,e2,hcp,h9⟩:=g.at (t:=k) (by rw[←g.len];exact q1)
   have b3:=ht_brkW hf (by omega) k
   have s2:=CFr.Sub (mkR x) v1 (fit_mkR (by omega)) (by rw[e1];exact fit_mkR (by omega))
   rw[mkR_val,e1,mkR_val] at s2
   have b4:=ht_sub x (brkW l k)
   have hfl:Fl 717 [x-brkW l k,1]:=fun y hy=>by
    rcases List.mem_cons.1 hy with e|hy
    ·rw[e];omega
    ·rw[List.mem_singleton.1 hy];exact Nat.le_trans (show Sym.ht (1:Rat)≤1 from by decide) (by omega)
   have t1:=CPl.Trim [x-brkW l k,1] (by simp) hfl (by omega)
   rw[trimL_d1] at t1
   have hpl:=pcW_len g k
   have c1:=CPl.Compose (a:=64) (b:=717) 2 (pcW l k) [x-brkW l k,1] (by unfold chk2;rw[if_pos (chk_map (lastW g k) (by omega))];exact chk_map (lastZ_d1 _) (by simp)) (by simp;omega) (fl_pcW hf (by omega) k) hfl (by omega) (by omega) (by simp) (by omega) (by
    have:=cB_le 2 64 717 (by omega) hpl
    have e:cB 2 64 717 9≤800000:=by decide
    omega)
   rw[←hsh] at c1
   rw[e1] at hv1
   rw[e2] at hv2
   have hnx:=ih (t+1) (by omega) (by omega) h17
   rw[drop_take_map _ hb,hx] at hnx
   exact law_Shift.l20 _ t l byV _ _ _ _ _ k _ _ _ _ k _ _ (by rw[List.length_map];omega) hz s1 w1 p1 rfl hv1 s2 one t1 rfl hv2 c1 (by simp;omega) (by omega) hnx
 have loop1:∀(j t:Nat) (acc:List Rat),l.breaks.length-t=j→t≤l.breaks.length→((vals l.breaks).drop t).foldl (fun acc b=>addR acc (frac (b+byV.val))) acc=gaB (vals l.breaks) byV.val→(∀q∈acc,ht q≤260)→0<acc.length→acc.length≤t+1 →
   law_Shift.Loop1 (acc.map mkR).length l t byV (acc.map mkR) (shiftPV l byV.val):=by
  intro j
  induction j with
  |zero =>
   intro t acc hj ht hac hah h0 hal
   rw[List.drop_of_length_le (by omega)] at hac
   have hac:acc=gaB (vals l.breaks) byV.val:=hac
   have hlen:=gaB_shB_len (vals l.breaks) byV.val
   rw[←hac] at hlen
   unfold shiftPV
   by_cases h16:16<(shB (vals l.breaks) byV.val).length
   ·rw[if_pos h16]
    exact law_Shift.l13 _ l t byV _ (by omega) (by rw[List.length_map];omega)
   ·rw[if_neg h16]
    obtain⟨Z,z1,z2,z3⟩:=SortFunc (acc.map mkR) (by rw[List.length_map];exact h0) (by rw[List.length_map];omega) (fun a ha=>by
     obtain⟨q,hq,rfl⟩:=List.mem_map.1 ha
     exact fit_mkR (by have:=hah q hq;omega))
    have hZ:Z=(vals Z).map mkR:=by
     unfold vals
     rw[List.map_map]
     conv=>lhs;rw[←List.map_id Z]
     refine List.map_congr_left (fun a ha => ?_)
     obtain⟨q,hq,rfl⟩:=List.mem_map.1 (z1.mem_iff.1 ha)
     show mkR q=mkR (mkR q).val
     rw[mkR_val]
    have hvz:vals Z=shB (vals l.breaks) byV.val:=by
     refine gaB_sorted ?_ (List.pairwise_map.2 z2)
     have:=z1.map ARat.val
     rw[←hac]
     rw[show (acc.map mkR).map ARat.val=acc from vals_mkR acc] at this
     exact this
    have hl2:=loop2 _ 0 rfl (Nat.zero_le _) (by omega)
    rw[hvz] at hZ
    rw[hZ] at z3
    rw[List.take_zero,List.map_nil] at hl2
    exact law_Shift.l14 _ l t byV _ _ (by omega) (by rw[List.length_map];omega) z3 (by rw[List.length_map,List.length_map];omega) hl2
  |succ j ih =>
   intro t acc hj ht hac hah h0 hal
   obtain⟨v,hv⟩:∃v,l.breaks[t]? = some v:=⟨_,List.getElem?_eq_getElem (by omega)⟩
   have hvv:(vals l.breaks)[t]? = some v.val:=by unfold vals;rw[List.getElem?_map,hv];rfl
   rw[drop_cons hvv,List.foldl_cons] at hac
   have hvf:=hf.1 v (List.mem_of_getElem? hv)
   have hvh:=ht_fit hvf.1 hvf.2 (by omega)
   have a1:=CFr.Add v byV ⟨by omega,by omega⟩ ⟨by omega,by omega⟩
   have b1:=ht_add v.val byV.val
   have f1:=fit_mkRk (q:=v.val+byV.val) (k:=129) (by omega)
   have w1:=wrapped (mkR (v.val+byV.val)) ⟨by omega,by omega⟩
   rw[mkR_val] at w1
   have b2:=ht_frac (x:=v.val+byV.val) (k:=129) (by omega)
   generalize frac (v.val+byV.val)=x at *
   have hal2:(acc.map mkR).length=acc.length:=List.length_map ..
   have c1:=Contains (acc.map mkR) (mkR x) (fun a ha=>by
    obtain⟨q,hq,rfl⟩:=List.mem_map.1 ha
    exact fit_mkR (by have:=hah q hq;omega)) (fit_mkR (by omega)) (by omega)
   rw[mkR_val,vals_mkR] at c1
   by_cases hm:x∈acc
   ·rw[show addR acc x=acc from if_pos hm] at hac
    exact law_Shift.l11 _ l t byV _ v _ _ _ _ (by omega) hv a1 w1 c1 (decide_eq_true hm) (by omega) (ih (t+1) acc (by omega) (by omega) hac hah h0 (by omega))
   ·rw[show addR acc x=acc++[x] from if_neg hm] at hac
    have hn:=ih (t+1) (acc++[x]) (by omega) (by omega) hac (fun q hq=>by
     rcases List.mem_append.1 hq with hq|hq
     ·exact hah q hq
     ·rw[List.mem_singleton.1 hq];omega) (by simp) (by simp;omega)
    rw[show (acc++[x]).map mkR=acc.map mkR++[mkR x] from List.map_append ..] at hn
    exact law_Shift.l10 _ l t byV _ v _ _ _ _ (by omega) hv a1 w1 c1 (decide_eq_false hm) rfl (by simp;omega) (by omega) hn
 exact law_Shift.e1 l byV _ hck hval rfl (loop1 _ 0 [0] rfl (Nat.zero_le _) rfl (fun q hq=>by rw[List.mem_singleton.1 hq,ht_zero];omega) (by simp) (by simp))
end CLw
end Go.Proofs.YtbgkjomonebfcaaGreat.Sym
namespace Go.Proofs.YtbgkjomonebfcaaGreat.Sym
open Go Path CInt
set_option linter.unusedVariables false
structure GCamS (c:ACam):Prop where
 law:chkLaw c.lift=0
 bv:c.base.valid=true
 b0:0<c.base.val
 fb:ht c.base.val≤4
 fl:FitW 61 c.lift
 len:∀p∈c.lift.pieces,p.length≤6
 ch:∀t,Ch 61 (pcW c.lift t)
theorem gcams_chk{c:ACam}(g:GCamS c):chkCam c=0:=by unfold chkCam;rw[if_pos g.law,if_pos ⟨g.bv,g.b0⟩]
theorem combL_ch{base byV f:Rat}{p q:List Rat}(hb:ht base≤4)(hby:ht byV≤7)(hf:ht f≤4)(hp:Ch 61 p)(hq:Ch 63 q):Ch 145 (combL base byV p f q):=by
 have h1:Ch 5 [base]:=(Ch.of_fl (k:=4) (p:=[base]) (fun x hx=>by rw[List.mem_singleton.1 hx];exact hb)).mono (by simp)
 have h2:=((h1.add hp).smul hby).add (hq.smul hf)
 exact h2.trim.mono (by omega)
theorem fineS{p:List Rat}(hz:lastZ p=false)(h0:p≠[])(hl:p.length≤6)(hc:Ch 145 p):Fine 145 6 p:=⟨hz,h0,hl,hc,by omega,by omega,by decide⟩
theorem pc_len6S{c:ACam}(g:GCamS c)(t:Nat):(pcW c.lift t).length≤6:=by
 unfold pcW
 cases h:c.lift.pieces[t]? with
 |some p=>have:=g.len p (List.mem_of_getElem? h);show(vals p).length≤6;unfold vals;rw[List.length_map];exact this
 |none=>simp
structure GDerS (c:ACam) (d:ALaw):Prop where
 good:chkLaw d=0
 fit:FitW 65 d
 pcs:d.pieces.length=c.lift.pieces.length
 len:∀t,(pcW d t).length≤6
 ch:∀t,Ch 63 (pcW d t)
theorem gderS0{c:ACam}(g:GCamS c):GDerS c c.lift:=⟨g.law,fitW_up g.fl (by omega),rfl,pc_len6S g,fun t=>(g.ch t).mono (by omega)⟩
theorem gderS1{c:ACam}(g:GCamS c):GDerS c (deriveW c.lift):=by
 have f:=fitW_derive (good_of g.law) (by omega) g.fl
 refine⟨chk_derive g.law,fitW_up f (by omega),deriveW_len _,fun t => ?_,fun t => ?_⟩
 ·rw[deriveW_pc]
  have:=len_deriveL (pcW c.lift t)
  have:=pc_len6S g t
  omega
 ·rw[deriveW_pc]
  exact((g.ch t).derive (by have:=pc_len6S g t;omega)).mono (by omega)
theorem gderS2{c:ACam}(g:GCamS c):GDerS c (deriveW (deriveW c.lift)):=by
 have h1:=gderS1 g
 have f:=fitW_derive (good_of h1.good) (by omega) (fitW_derive (good_of g.law) (by omega) g.fl)
 refine⟨chk_derive h1.good,fitW_up f (by omega),by rw[deriveW_len,deriveW_len],fun t => ?_,fun t => ?_⟩
 ·rw[deriveW_pc]
  have:=len_deriveL (pcW (deriveW c.lift) t)
  have:=h1.len t
  omega
 ·rw[deriveW_pc,deriveW_pc]
  have h2:=(g.ch t).derive (by have:=pc_len6S g t;omega)
  have:=len_deriveL (pcW c.lift t)
  exact(h2.derive (by have:=pc_len6S g t;omega)).mono (by omega)
theorem base_mkS{c:ACam}(g:GCamS c):c.base=mkR c.base.val:=(mkR_of g.bv).symm
namespace CCs
theorem check{c:ACam}(g:GCamS c):Contract prg 47 [c.pv] .nilI:=by
 have hb:=fit_mkRk g.fb
 rw[←base_mkS g] at hb
 have:=CCa.Check c (fitW_up g.fl (by omega)) (by omega)
 rwa[gcams_chk g] at this
theorem combined{base byV f:Rat}{p q:List Rat}(zp:lastZ p=false)(zq:lastZ q=false)(lp:p.length≤9)(lq:q.length≤9)(hb:ht base≤20)(hby:ht byV≤20)(hf:ht f≤20)(hp:Fl 65 p)(hq:Fl 65 q):Contract prg 198 [(mkR base).pv,(mkR byV).pv,pq p,(mkR f).pv,pq q] (.tup [pq (combL base byV p f q),.nilI]):=by
 have hb1:Fl 20 [base]:=fun x hx=>by rw[List.mem_singleton.1 hx];exact hb
 have t1:=CPl.Trim [base] (by simp) hb1 (by omega)
 have l1:=len_trimL [base]
 simp only[List.length_cons,List.length_nil] at l1
 have h2:Fl 86 (addL (trimL [base]) p):=fl_addL (fl_trimL hb1) hp (by omega) (by omega)
 have a1:=CCa.AddQ (trimL [base]) p (lastZ_trimL _) zp (by omega) (by omega) (fl_trimL hb1) hp (by omega) (by omega) (by omega)
 have l2:=len_trimL (addL (trimL [base]) p)
 rw[len_addL] at l2
 have s1:=CCa.ScaleQ (trimL (addL (trimL [base]) p)) byV (lastZ_trimL _) (by omega) (fl_trimL h2) hby (by omega) (by omega)
 have h3:Fl 106 (smulL byV (trimL (addL (trimL [base]) p))):=fl_mono (fl_smulL (fl_trimL h2)) (by omega)
 have s2:=CCa.ScaleQ q f zq (by omega) hq hf (by omega) (by omega)
 have h4:Fl 85 (smulL f q):=fl_mono (fl_smulL hq) (by omega)
 have l3:=len_trimL (smulL byV (trimL (addL (trimL [base]) p)))
 rw[len_smulL] at l3
 have l4:=len_trimL (smulL f q)
 rw[len_smulL] at l4
 have a2:=CCa.AddQ (trimL (smulL byV (trimL (addL (trimL [base]) p)))) (trimL (smulL f q)) (lastZ_trimL _) (lastZ_trimL _) (by omega) (by omega) (fl_trimL h3) (fl_trimL h4) (by omega) (by omega) (by omega)
 rw[CCa.comb_same] at a2
 exact cam_combined.e0 _ _ _ _ _ _ _ _ _ _ none t1 a1 s1 s2 a2
theorem positive{p:List Rat}(hz:lastZ p=false)(hl:p.length≤6)(hc:Ch 145 p)(len:Rat)(h0:0≤len)(hh:ht len≤1000):Contract prg 199 [pq p,(mkR len).pv] (.tup [vB (posB p len),.nilI]):=by
 have hf:=hc.fl (by omega)
 have hev:=CPo.Eval (p.map mkR) (mkR 0) (chk_map hz (by omega)) (fit_mapk (fl_mono hf (by omega))) (by constructor<;>decide)
 rw[vals_mkR,mkR_val,←coef_eval0] at hev
 have hs:=QF.Sign (coef p 0) (by have:=fl_coef hf (by omega) 0;omega)
 by_cases h:0<coef p 0
 ·have hne:p≠[]:=by intro e;rw[e] at h;exact absurd h Rat.lt_irrefl
  have hcc:=CSt.Count (fineS hz hne hl hc) 0 len h0 (by decide) (by omega)
  rw[posB_pos h]
  exact cam_positive.e1 _ _ _ _ _ hev hs (cmpR_gt.2 h) hcc
 ·rw[posB_neg h]
  exact cam_positive.e0 _ _ _ _ hev hs (cmpR_le.2 (by grind))
theorem all2{c:ACam}(g:GCamS c){byV f:Rat}(hby:ht byV≤7)(hf:ht f≤4){d:ALaw}(hd:GDerS c d):cam_all.Loop2 c 0 (mkR byV) (mkR f) d (.tup [vB (allC c byV f d),.nilI]):=by
 have gl:=good_of g.law
 have gd:=good_of hd.good
 have hlen:=gl.len
 have hle:=gl.le
 have hdp:=hd.pcs
 have loop:∀(j t:Nat),c.lift.pieces.length-t=j→cam_all.Loop2 c t (mkR byV) (mkR f) d (.tup [vB (allF c byV f d j t),.nilI]):=by
  intro j
  induction j with
  |zero=>intro t hj;exact cam_all.l27 c t _ _ _ (by omega)
  |succ j ih =>
   intro t hj
   have ht:t<c.lift.pieces.length:=by omega
   obtain⟨b,p,hb,hp,eb,ep,hcp,h9⟩:=gl.at ht
   obtain⟨b',p',hb',hp',eb',ep',hcp',h9'⟩:=gd.at (t:=t) (by omega)
   rw[ep] at hp
   rw[ep'] at hp'
   rw[eb] at hb
   have l1:=pc_len6S g t
   have l2:=hd.len t
   have f1:=fl_pcW g.fl (by omega) t
   have f2:=fl_pcW hd.fit (by omega) t
   have hfb:=g.fb
   have hcomb:=combined (base:=c.base.val) (pc_trim gl t) (pc_trim gd t) (by omega) (by omega) (by omega) (show Sym.ht byV≤20 by omega) (show Sym.ht f≤20 by omega) (fl_mono f1 (by omega)) (fl_mono f2 (by omega))
   rw[←base_mkS g] at hcomb
   have hcl:=combL_len c.base.val byV (pcW c.lift t) f (pcW d t) (n:=6) (by omega) l1 l2
   have hcf:=combL_ch (base:=c.base.val) g.fb hby hf (g.ch t) (hd.ch t)
   have hlp:=lenW_pos gl (t:=t) (by omega)
   have hlh:=ht_lenW g.fl (by omega) t
   have hpo:=positive (p:=combL c.base.val byV (pcW c.lift t) f (pcW d t)) (lastZ_trimL _) hcl hcf (lenW c.lift t) (Rat.le_of_lt hlp) (by omega)
   have e1:=ht_endW g.fl (by omega) t
   have e2:=ht_brkW g.fl (by omega) t
   have hone:=CFr.Of 1 (by unfold InI64;omega)
   have hsub:=QF.Sub (endW c.lift t) (brkW c.lift t) (by omega) (by omega)
   rw[allF]
   by_cases hn:t+1<c.lift.breaks.length
   ·obtain⟨v,hv⟩:∃v,c.lift.breaks[t+1]? = some v:=⟨_,List.getElem?_eq_getElem hn⟩
    have ev:v=mkR (endW c.lift t):=by
     unfold endW
     rw[hv,mkR_of (List.all_eq_true.1 gl.valid v (List.mem_of_getElem? hv))]
    rw[ev] at hv
    cases hb:posB (combL c.base.val byV (pcW c.lift t) f (pcW d t)) (lenW c.lift t) with
    |false=>exact cam_all.l20 c t _ _ _ _ _ _ _ _ _ _ _ ht hp hp' hcomb hone (by omega) hn hv (by assumption) hsub hpo hb
    |true=>exact cam_all.l21 c t _ _ _ _ _ _ _ _ _ _ _ ht hp hp' hcomb hone (by omega) hn hv (by assumption) hsub hpo hb (ih (t+1) (by omega))
   ·have ev:endW c.lift t=((1:Int):Rat):=by
     unfold endW
     rw[List.getElem?_eq_none (by omega)]
    rw[ev] at hsub
    have hpo':=hpo
    have el:lenW c.lift t=((1:Int):Rat)-brkW c.lift t:=by unfold lenW;rw[ev]
    rw[el] at hpo'
    cases hb:posB (combL c.base.val byV (pcW c.lift t) f (pcW d t)) (lenW c.lift t) with
    |false=>exact cam_all.l23 c t _ _ _ _ _ _ _ _ _ _ ht hp hp' hcomb hone (by omega) (by omega) (by assumption) hsub hpo' (by rw[←el];exact hb)
    |true=>exact cam_all.l24 c t _ _ _ _ _ _ _ _ _ _ ht hp hp' hcomb hone (by omega) (by omega) (by assumption) hsub hpo' (by rw[←el];exact hb) (ih (t+1) (by omega))
 exact loop _ 0 rfl
theorem all0{c:ACam}(g:GCamS c){byV f:Rat}(hby:ht byV≤7)(hf:ht f≤4):Contract prg 126 [c.pv,(mkR byV).pv,(mkR f).pv,vI 0] (.tup [vB (allC c byV f c.lift),.nilI]) :=
 cam_all.e0 c _ _ _ (cam_all.l12 0 0 c _ _ _ (by omega) (all2 g hby hf (gderS0 g)))
theorem all1{c:ACam}(g:GCamS c){byV f:Rat}(hby:ht byV≤7)(hf:ht f≤4):Contract prg 126 [c.pv,(mkR byV).pv,(mkR f).pv,vI 1] (.tup [vB (allC c byV f (deriveW c.lift)),.nilI]):=by
 have hd:=CLw.Derive c.lift g.law (fitW_up g.fl (by omega))
 exact cam_all.e0 c _ _ _ (cam_all.l10 1 0 c _ _ _ _ (by omega) hd (by omega) (cam_all.l12 1 1 c _ _ _ (by omega) (all2 g hby hf (gderS1 g))))
theorem all22{c:ACam}(g:GCamS c){byV f:Rat}(hby:ht byV≤7)(hf:ht f≤4):Contract prg 126 [c.pv,(mkR byV).pv,(mkR f).pv,vI 2] (.tup [vB (allC c byV f (deriveW (deriveW c.lift))),.nilI]):=by
 have hd:=CLw.Derive c.lift g.law (fitW_up g.fl (by omega))
 have h1:=gderS1 g
 have hd2:=CLw.Derive (deriveW c.lift) h1.good (fitW_up h1.fit (by omega))
 exact cam_all.e0 c _ _ _ (cam_all.l10 2 0 c _ _ _ _ (by omega) hd (by omega) (cam_all.l10 2 1 c _ _ _ _ (by omega) hd2 (by omega) (cam_all.l12 2 2 c _ _ _ (by omega) (all2 g hby hf (gderS2 g)))))
theorem Positive{c:ACam}(g:GCamS c):Contract prg 54 [c.pv] (.tup [vB (posC c),.nilI]) :=
 cam_Positive.e0 c _ _ none (check g) (CFr.Of 1 (by unfold InI64;omega)) (all0 (byV:=((1:Int):Rat)) (f:=0) g (by decide) (by decide))
theorem Within{c:ACam}(g:GCamS c){limit:Rat}(hl:ht limit≤4)(h0:0<limit):Contract prg 55 [c.pv,(mkR limit).pv] (.tup [vB (withC c limit),.nilI]):=by
 have p2:ht piLo≤1:=by decide
 have z2:ht ((2:Int):Rat)≤1:=by decide
 have m1:=ht_mul piLo limit
 have hb:=CCa.ht_byW hl
 have a1:=all1 (byV:=byW limit) (f:=((-1:Int):Rat)) g (by omega) (by decide)
 have a2:=all1 (byV:=byW limit) (f:=((1:Int):Rat)) g (by omega) (by decide)
 have o1:=CFr.Of (-1) (by unfold InI64;omega)
 have o2:=CFr.Of 1 (by unfold InI64;omega)
 refine cam_Within.e2 c _ _ _ _ _ _ _ (check g) (QF.Valid limit (by omega)) rfl (QF.Sign limit (by omega)) (cmpR_gt.2 h0) (CFr.Of 2 (by unfold InI64;omega)) CCa.low (QF.Mul piLo limit (by omega) (by omega)) (QF.Mul ((2:Int):Rat) (piLo*limit) (by omega) (by omega)) ?_
 unfold withC
 cases h1:allC c (byW limit) (-1) (deriveW c.lift) with
 |false=>exact cam_Within.l10 0 c _ (-1) _ _ (by omega) rfl o1 a1 h1
 |true =>
  refine cam_Within.l11 0 c _ (-1) _ _ (by omega) rfl o1 a1 h1 (by omega) ?_
  cases h2:allC c (byW limit) 1 (deriveW c.lift) with
  |false=>exact cam_Within.l10 1 c _ 1 _ _ (by omega) rfl o2 a2 h2
  |true=>exact cam_Within.l11 1 c _ 1 _ _ (by omega) rfl o2 a2 h2 (by omega) (cam_Within.l13 2 c _ _ none (by omega) (Positive g))
theorem Convex{c:ACam}(g:GCamS c):Contract prg 56 [c.pv] (.tup [vB (convC c),.nilI]):=by
 have s1:ht (sqP piHi)≤1:=by decide +kernel
 have s2:ht (sqP piLo)≤1:=by decide +kernel
 have a1:=all22 (byV:=((1:Int):Rat)) (f:=sqP piLo) g (by decide) (by omega)
 have a2:=all22 (byV:=((1:Int):Rat)) (f:=sqP piHi) g (by decide) (by omega)
 have o2:=CFr.Of 1 (by unfold InI64;omega)
 have q1:=CCa.square piLo (by decide) (by decide)
 have q2:=CCa.square piHi (by decide) (by decide)
 refine cam_Convex.e0 c _ _ (check g) CCa.low CCa.high ?_
 unfold convC
 cases h1:allC c 1 (sqP piLo) (deriveW (deriveW c.lift)) with
 |false=>exact cam_Convex.l10 0 c _ _ _ _ _ _ (by omega) rfl o2 q1 a1 h1
 |true =>
  refine cam_Convex.l11 0 c _ _ _ _ _ _ (by omega) rfl o2 q1 a1 h1 (by omega) ?_
  cases h2:allC c 1 (sqP piHi) (deriveW (deriveW c.lift)) with
  |false=>exact cam_Convex.l10 1 c _ _ _ _ _ _ (by omega) rfl o2 q2 a2 h2
  |true=>exact cam_Convex.l11 1 c _ _ _ _ _ _ (by omega) rfl o2 q2 a2 h2 (by omega) (cam_Convex.l13 2 c _ _ (by omega))
end CCs
end Go.Proofs.YtbgkjomonebfcaaGreat.Sym
namespace Go.Proofs.YtbgkjomonebfcaaGreat.Sym
open Go Path CInt
set_option linter.unusedVariables false
section
variable {l:ALaw} {byV:Rat}
theorem ex_end{s:Rat}(h:(s∈shB (vals l.breaks) byV∧0<s)∨s=1):∃j b,(shB (vals l.breaks) byV)[j]? = some b∧endW (shW l byV) j=s:=by
 obtain⟨r,hr⟩:=shB_head (vals l.breaks) byV
 rcases h with ⟨h,h0⟩|h
 ·obtain⟨m,hm,hms⟩:=List.getElem_of_mem h
  cases m with
  |zero =>
   have:(shB (vals l.breaks) byV)[0]? = some s:=by rw[List.getElem?_eq_getElem hm,hms]
   rw[hr] at this
   have:(0:Rat)=s:=by simpa using this
   rw[this] at h0;exact absurd h0 Rat.lt_irrefl
  |succ m =>
   refine⟨m,_,List.getElem?_eq_getElem (by omega),?_⟩
   rw[endW_next (by rw[shW_len.1];exact hm)]
   exact shW_brk (by rw[List.getElem?_eq_getElem hm,hms])
 ·have hl:0<(shB (vals l.breaks) byV).length:=by rw[hr];simp
  refine⟨(shB (vals l.breaks) byV).length-1,_,List.getElem?_eq_getElem (by omega),?_⟩
  unfold endW
  rw[List.getElem?_eq_none (by rw[shW_len.1];omega),h];rfl
theorem int_zero{N:Int}(h1:(N:Rat)<1)(h2 : -1<(N:Rat)):N=0:=by
 have e1:((1:Int):Rat)=1:=rfl
 have e2:((-1:Int):Rat) = -1:=rfl
 rw[←e1,Rat.intCast_lt_intCast] at h1
 rw[←e2,Rat.intCast_lt_intCast] at h2
 omega
theorem dEv_comp(d t:Rat):∀p:List Rat,dEv (compL p [d,1]) t=dEv p (t+d)
 |[]=>rfl
 |a::p=>by
  have e:evalL [d,1] t=t+d:=by show(0*t+1)*t+d=_;grind
  have e2:dEv [d,1] t=1:=by
   rw[dEv_cons,dEv_cons,dEv_nil];show(0*t+1)+t*(0+t*0)=1;grind
  have e3:dEv [a] t=0:=by rw[dEv_cons,dEv_nil];show(0:Rat)+t*0=0;grind
  rw[compL,dEv_add,dEv_mul,dEv_comp d t p,evalL_compL,e,e2,e3,dEv_cons]
  grind
theorem brk_der(l:ALaw)(t:Nat):brkW (deriveW l) t=brkW l t:=by
 have e:∀m:ALaw,brkW m t=((vals m.breaks)[t]?).getD 0:=by
  intro m
  unfold brkW vals
  rw[List.getElem?_map]
  cases m.breaks[t]? <;> rfl
 rw[e,e,deriveW_br]
theorem shP_derive(l:ALaw)(x:Rat):deriveL (shP l x)=shP (deriveW l) x:=by
 unfold shP
 rw[deriveL_trimL,deriveW_br,deriveW_pc,brk_der]
 generalize pcW l _=p
 generalize x-_=d
 have h:∀t,evalL (deriveL (compL p [d,1])) t=evalL (compL (deriveL p) [d,1]) t:=fun t=>by
  rw[dEv_derive,dEv_comp,evalL_compL,dEv_derive]
  congr 1
  show _=(0*t+1)*t+d
  grind
 have:=eval_ext h
 rwa[trimL_of (lastZ_deriveL _)] at this
theorem derive_shift(l:ALaw)(byV:Rat):deriveW (shW l byV)=shW (deriveW l) byV:=by
 unfold deriveW
 show(⟨(vals (shW l byV).breaks).map mkR,_⟩:ALaw)=shW (deriveW l) byV
 rw[shW_vals]
 unfold shW
 rw[deriveW_br]
 congr 1
 rw[List.map_map]
 refine List.map_congr_left (fun b _ => ?_)
 show(deriveL (vals ((shP l (frac (b-byV))).map mkR))).map mkR=_
 rw[vals_mkR,shP_derive]
end
end Go.Proofs.YtbgkjomonebfcaaGreat.Sym

namespace Go.Proofs.YtbgkjomonebfcaaGreat.Sym
open Go Path CInt
set_option linter.unusedVariables false
theorem allF_iff{c:ACam}(g:GCam c)(byV f:Rat)(d:ALaw):∀j t,t+j=c.lift.pieces.length→(allF c byV f d j t=true↔∀i,t≤i→i<c.lift.pieces.length→Pos (combL c.base.val byV (pcW c.lift i) f (pcW d i)) 0 (lenW c.lift i))
 |0,t,h=>by
  constructor
  ·intro _ i h1 h2;omega
  ·intro _;rfl
 |j+1,t,h=>by
  have gl:=good_of g.law
  have hlen:=gl.len
  have ih:=allF_iff g byV f d j (t+1) (by omega)
  have hp:=posB_iff (p:=combL c.base.val byV (pcW c.lift t) f (pcW d t)) (lastZ_trimL _) (Rat.le_of_lt (lenW_pos gl (t:=t) (by omega)))
  rw[allF]
  cases hb:posB (combL c.base.val byV (pcW c.lift t) f (pcW d t)) (lenW c.lift t) with
  |false =>
   rw[cond_false]
   constructor
   ·intro h;cases h
   ·intro hi
    have:=hp.2 (hi t (Nat.le_refl _) (by omega))
    rw[hb] at this;cases this
  |true =>
   rw[cond_true,ih]
   constructor
   ·intro hi i h1 h2
    by_cases e:i=t
    ·subst e;exact hp.1 hb
    ·exact hi i (by omega) h2
   ·intro hi i h1 h2;exact hi i (by omega) h2
theorem allC_iff{c:ACam}(g:GCam c){byV f:Rat}{d:ALaw} : allC c byV f d=true↔∀i,i<c.lift.pieces.length→Pos (combL c.base.val byV (pcW c.lift i) f (pcW d i)) 0 (lenW c.lift i):=by
 unfold allC
 rw[allF_iff g byV f d _ 0 (by omega)]
 exact⟨fun h i hi=>h i (Nat.zero_le _) hi,fun h i _ hi=>h i hi⟩
theorem brk_derive(l:ALaw)(t:Nat):brkW (deriveW l) t=brkW l t:=by
 have e:∀m:ALaw,brkW m t=((vals m.breaks)[t]?).getD 0:=by
  intro m
  unfold brkW vals
  rw[List.getElem?_map]
  cases m.breaks[t]? <;> rfl
 rw[e,e,deriveW_br]
namespace C53
theorem valid(c:ACam)(hh:Held c):Contract prg 62 [c.pv] (vB false)∨(chkCam c=0∧SmallC c∧Contract prg 62 [c.pv] (vB true)):=by
 rcases large c hh with hl|⟨s,hl⟩
 ·exact Or.inl (linkworklaw53_valid.e1 c _ hl rfl)
 have hck2:=CCr.Check c (fitW_up (small_fit s) (by omega)) (by have:=s.base;omega)
 have:=linkworklaw53_valid.e0 c _ _ hl rfl hck2
 by_cases h:chkCam c=0
 ·rw[h] at this;exact Or.inr ⟨h,s,this⟩
 ·rw[show (chkCam c==0)=false from by simpa using h] at this
  exact Or.inl this
theorem gate(a:ARat)(ha:a.num.length+a.den.length<9223372036854775808)(h2:¬2<a.num.length+a.den.length):Contract prg 48 [a.pv] (vB a.valid)∧Contract prg 59 [a.pv] (vI (cmpR a.val 0)) :=
 ⟨CRb.Valid a ⟨by omega,by omega⟩,CRb.Sign a ⟨by omega,by omega⟩⟩
end C53
end Go.Proofs.YtbgkjomonebfcaaGreat.Sym
