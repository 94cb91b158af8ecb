import Derived.Test.YtcgbmnkgmepikaaGreatM3
import Derived.Test.YtcgbmnkgmepikaaGreatM5

/-
  PLaw: paths through functions (printed by a program of ours, wip/gen/gen2.py).
-/
namespace Go.Proofs.YtcgbmnkgmepikaaGreat.Sym.Path
open Go
set_option maxRecDepth 20000
set_option linter.unusedVariables false

namespace law_one
@[reducible] noncomputable def fn : Func := Tryz.f53
theorem e0 (of : ARat) (h1 : Contract prg 33 [(vI 1)] of.pv) : Contract prg 53 [] of.pv :=
  Contract.ofL Tryz.func53 (by kernel_rfl) (L.done mixed tabOk (n := 72) (ns := [1]) (tr := [.reg [], .reg [(.pv of.pv)]]) (cj h1 True.intro) (by kernel_rfl))
end law_one

namespace law_wrapped
@[reducible] noncomputable def fn : Func := Tryz.f66
theorem e0 (x : ARat) (flo who : AWhole) (fro sub : ARat) (h1 : Contract prg 117 [x.pv] flo.pv) (h2 : Contract prg 118 [] who.pv) (h3 : Contract prg 111 [flo.pv, who.pv] (.tup [fro.pv, .nilI])) (h4 : Contract prg 51 [x.pv, fro.pv] sub.pv) : Contract prg 66 [x.pv] (.tup [sub.pv, .nilI]) :=
  Contract.ofL Tryz.func66 (by kernel_rfl) (L.done mixed tabOk (n := 93) (ns := [1, 1, 1, 1]) (tr := [.reg [], .reg [.none, (.pv flo.pv), (.pv who.pv), (.pv (.tup [fro.pv, .nilI]))], .reg [], .auto, .reg [.none, .none, (.pv sub.pv)]]) (cj h1 (cj h2 (cj h3 (cj h4 True.intro)))) (by kernel_rfl))
theorem e1 (x : ARat) (flo who : AWhole) (fro : ARat) (fro1 : Int) (h1 : Contract prg 117 [x.pv] flo.pv) (h2 : Contract prg 118 [] who.pv) (h3 : Contract prg 111 [flo.pv, who.pv] (.tup [fro.pv, (.iface 57 (vI fro1))])) : Contract prg 66 [x.pv] (.tup [(⟨false, [], []⟩ : ARat).pv, (.iface 57 (vI fro1))]) :=
  Contract.ofL Tryz.func66 (by kernel_rfl) (L.done mixed tabOk (n := 90) (ns := [1, 1, 1]) (tr := [.reg [], .reg [.none, (.pv flo.pv), (.pv who.pv), (.pv (.tup [fro.pv, (.iface 57 (vI fro1))]))], .reg [], .auto, .reg []]) (cj h1 (cj h2 (cj h3 True.intro))) (by kernel_rfl))
end law_wrapped

namespace law_whole
@[reducible] noncomputable def fn : Func := Tryz.f118
theorem e0   : Contract prg 118 [] ((⟨false, [(1 : UInt32)]⟩ : AWhole).pv) :=
  Contract.ofL Tryz.func118 (by kernel_rfl) (L.done mixed tabOk (n := 72) (ns := [3]) (tr := [.reg [], .reg [(.slc 0 0 (([(1 : UInt32)] : List UInt32).map wordPV))]]) (cj (o_bs sz_word ([(1 : UInt32)] : List UInt32)) True.intro) (by kernel_rfl))
end law_whole

namespace law_piece
@[reducible] noncomputable def fn : Func := Tryz.f67
noncomputable def atK1 : List Itm := focus [0, 2, 0, 2, 0, 0, 0] [.code (bodyOf fn)]
def inv1 (i_5 : Int) (l : ALaw) (x : ARat) : St := ⟨[(2, (.ptr 2 0)), (3, (.ptr 3 0)), (5, (eI i_5))], [(2, (.lit [(.pv (polyPV l.breaks)), (.pv (lpv (lcell ARat.cells) l.pieces))])), (3, (.lit [(eB x.neg), (.pv (wordsPV x.num)), (.pv (wordsPV x.den))]))]⟩
@[reducible] noncomputable def Loop1 (i_5 : Int) (l : ALaw) (x : ARat) (r : PV) : Prop := L prg fn atK1 (inv1 i_5 l x) r
theorem e0 (l : ALaw) (x : ARat) {r : PV} (h1 : InI64 ((l.breaks.length : Int) - 1)) (hL : Loop1 ((l.breaks.length : Int) - 1) l x r) : Contract prg 67 [l.pv, x.pv] r :=
  Contract.ofL Tryz.func67 (by kernel_rfl) (L.go mixed tabOk (n := 81) (ns := [1, 1]) (tr := [.reg [], .reg [.none, .none, (iI (l.breaks.length : Int)), (iI ((l.breaks.length : Int) - 1))], .keep [2, 3, 5], .ord [2, 3]]) (cj (o_len ARat.cells l.breaks) (cj (bs_sub h1) True.intro)) (by kernel_rfl) hL)
theorem l10 (i_5 : Int) (l : ALaw) (x : ARat) (k : Nat) (v : ARat) (cmp : Int) {r : PV} (h1 : i_5 = (k : Int)) (h2 : l.breaks[k]? = some v) (h3 : Contract prg 38 [v.pv, x.pv] (vI cmp)) (h4 : 0 < cmp) (h5 : InI64 (i_5 - 1)) (hL : Loop1 (i_5 - 1) l x r) : Loop1 i_5 l x r :=
  L.go mixed tabOk (n := 108) (ns := [3, 1, 1, 1]) (tr := [.auto, dr 8 0 [.none, .none, .none, (.row k (ARat.cells v)), .none, .none, (.pv (vI cmp))], .dec true, .reg [.none, (iI (i_5 - 1))], .keep [2, 3, 5]]) (cj (o_at ARat.cells h1 h2) (cj h3 (cj (dlt_t h4) (cj (bs_sub h5) True.intro)))) (by kernel_rfl) hL
theorem l11 (i_5 : Int) (l : ALaw) (x : ARat) (k : Nat) (v : ARat) (cmp : Int) (h1 : i_5 = (k : Int)) (h2 : l.breaks[k]? = some v) (h3 : Contract prg 38 [v.pv, x.pv] (vI cmp)) (h4 : cmp ≤ 0) : Loop1 i_5 l x (vI i_5) :=
  L.done mixed tabOk (n := 114) (ns := [3, 1, 1]) (tr := [.auto, dr 8 0 [.none, .none, .none, (.row k (ARat.cells v)), .none, .none, (.pv (vI cmp))], .dec false, .reg []]) (cj (o_at ARat.cells h1 h2) (cj h3 (cj (dlt_f h4) True.intro))) (by kernel_rfl)
end law_piece

namespace law_At
@[reducible] noncomputable def fn : Func := Tryz.f21
theorem e0 (l : ALaw) (x : ARat) (val : Bool) (h1 : Contract prg 24 [l.pv] .nilI) (h2 : Contract prg 50 [x.pv] (vB val)) (h3 : val = false) : Contract prg 21 [l.pv, x.pv] (.tup [(⟨false, [], []⟩ : ARat).pv, (.iface 57 (vI 3))]) :=
  Contract.ofL Tryz.func21 (by kernel_rfl) (L.done mixed tabOk (n := 105) (ns := [1, 1, 1]) (tr := [.reg [], .reg [.none, (.pv .nilI)], .reg [], .auto, .reg [.none, (.pv (vB val))], .dec true, .reg []]) (cj h1 (cj h2 (cj (bnot_t h3) True.intro))) (by kernel_rfl))
theorem e1 (l : ALaw) (x : ARat) (val : Bool) (wra : ARat) (pie : Int) (k : Nat) (v : List ARat) (k1 : Nat) (v1 sub eva : ARat) (eva1 : Option Int) (h1 : Contract prg 24 [l.pv] .nilI) (h2 : Contract prg 50 [x.pv] (vB val)) (h3 : val = true) (h4 : Contract prg 66 [x.pv] (.tup [wra.pv, .nilI])) (h5 : Contract prg 67 [l.pv, wra.pv] (vI pie)) (h6 : pie = (k : Int)) (h7 : l.pieces[k]? = some v) (h8 : pie = (k1 : Int)) (h9 : l.breaks[k1]? = some v1) (h10 : Contract prg 51 [wra.pv, v1.pv] sub.pv) (h11 : Contract prg 16 [(polyPV v), sub.pv] (.tup [eva.pv, (errPV eva1)])) : Contract prg 21 [l.pv, x.pv] (.tup [eva.pv, (errPV eva1)]) :=
  Contract.ofL Tryz.func21 (by kernel_rfl) (L.done mixed tabOk (n := 135) (ns := [1, 1, 1, 1, 1, 3, 3, 1, 1]) (tr := [.reg [], .reg [.none, (.pv .nilI)], .reg [], .auto, .reg [.none, (.pv (vB val))], .dec false, .reg [.none, (.pv (.tup [wra.pv, .nilI]))], .reg [], .auto, .reg [.none, .none, (.pv (vI pie))], dr 15 2 [.none, .none, .none, (.row k ((lcell ARat.cells) v)), .none, .none, .none, .none, .none, (.row k1 (ARat.cells v1)), .none, (.pv sub.pv), (.pv (.tup [eva.pv, (errPV eva1)]))]]) (cj h1 (cj h2 (cj (bnot_f h3) (cj h4 (cj h5 (cj (o_at (lcell ARat.cells) h6 h7) (cj (o_at ARat.cells h8 h9) (cj h10 (cj h11 True.intro))))))))) (by kernel_rfl))
theorem e2 (l : ALaw) (x : ARat) (val : Bool) (wra : ARat) (wra1 : Int) (h1 : Contract prg 24 [l.pv] .nilI) (h2 : Contract prg 50 [x.pv] (vB val)) (h3 : val = true) (h4 : Contract prg 66 [x.pv] (.tup [wra.pv, (.iface 57 (vI wra1))])) : Contract prg 21 [l.pv, x.pv] (.tup [(⟨false, [], []⟩ : ARat).pv, (.iface 57 (vI wra1))]) :=
  Contract.ofL Tryz.func21 (by kernel_rfl) (L.done mixed tabOk (n := 126) (ns := [1, 1, 1, 1]) (tr := [.reg [], .reg [.none, (.pv .nilI)], .reg [], .auto, .reg [.none, (.pv (vB val))], .dec false, .reg [.none, (.pv (.tup [wra.pv, (.iface 57 (vI wra1))]))], .reg [], .auto, .reg []]) (cj h1 (cj h2 (cj (bnot_f h3) (cj h4 True.intro)))) (by kernel_rfl))
theorem e3 (l : ALaw) (x : ARat) (che : Int) (h1 : Contract prg 24 [l.pv] (.iface 57 (vI che))) : Contract prg 21 [l.pv, x.pv] (.tup [(⟨false, [], []⟩ : ARat).pv, (.iface 57 (vI che))]) :=
  Contract.ofL Tryz.func21 (by kernel_rfl) (L.done mixed tabOk (n := 90) (ns := [1]) (tr := [.reg [], .reg [.none, (.pv (.iface 57 (vI che)))], .reg [], .auto, .reg []]) (cj h1 True.intro) (by kernel_rfl))
end law_At

namespace law_Rise
@[reducible] noncomputable def fn : Func := Tryz.f12
noncomputable def atK1 : List Itm := focus [0, 2, 0, 0, 2, 1, 2, 0, 2, 0, 0, 2, 0, 0, 2, 0, 2, 2, 0, 2, 0, 2, 0, 0, 2, 1, 2, 0, 2, 0, 2, 0, 0, 2, 0, 0] [.code (bodyOf fn)]
def inv1 (site_81 : List ARat) (site_42 : List Int) (t_63 t_64 : Nat) (fromV sub div site_14 : ARat) : St := ⟨[(5, (.ptr 5 0)), (11, (.ptr 11 0)), (12, (.ptr 12 0)), (14, (.ptr 14 0)), (15, (.row 81 0 site_81.length 3)), (62, (.row 42 0 site_42.length 1)), (63, (eI (t_63 : Int))), (64, (eI (t_64 : Int)))], [(5, (.lit [(eB fromV.neg), (.pv (wordsPV fromV.num)), (.pv (wordsPV fromV.den))])), (11, (.lit [(eB sub.neg), (.pv (wordsPV sub.num)), (.pv (wordsPV sub.den))])), (12, (.lit [(eB div.neg), (.pv (wordsPV div.num)), (.pv (wordsPV div.den))])), (14, (.lit [(eB site_14.neg), (.pv (wordsPV site_14.num)), (.pv (wordsPV site_14.den))])), (42, (.pure ((site_42 : List Int).map intCell).flatten)), (81, (.pure ((site_81 : List ARat).map ARat.cells).flatten))]⟩
@[reducible] noncomputable def Loop1 (site_81 : List ARat) (site_42 : List Int) (t_63 t_64 : Nat) (fromV sub div site_14 : ARat) (r : PV) : Prop := L prg fn atK1 (inv1 site_81 site_42 t_63 t_64 fromV sub div site_14) r
theorem e0 (length fromV toV : ARat) (degree : Int) (val : Bool) (h1 : Contract prg 50 [length.pv] (vB val)) (h2 : val = false) : Contract prg 12 [length.pv, fromV.pv, toV.pv, (vI degree)] (.tup [(polyPV []), (.iface 57 (vI 3))]) :=
  Contract.ofL Tryz.func12 (by kernel_rfl) (L.done mixed tabOk (n := 84) (ns := [1, 1, 1, 1, 1, 1, 1, 1, 1, 1, 1]) (tr := [.reg [], .reg [.none, (.pv (vB val)), .none, .none, .skip, .skip, .skip, (.dec true), .none, .skip, .skip, .skip, .none, .none, .skip, .skip, .skip], .auto, .reg []]) (cj h1 (cj (bnot_t h2) (cj (bnot_t h2) (cj (bnot_t h2) (cj (bnot_t h2) (cj (Eq.refl true) (cj (Eq.refl true) (cj (Eq.refl true) (cj (Eq.refl true) (cj (Eq.refl true) (cj (Eq.refl true) True.intro))))))))))) (by kernel_rfl))
theorem e1 (length fromV toV : ARat) (degree : Int) (val : Bool) (sig : Int) (h1 : Contract prg 50 [length.pv] (vB val)) (h2 : val = true) (h3 : Contract prg 39 [length.pv] (vI sig)) (h4 : sig ≤ 0) : Contract prg 12 [length.pv, fromV.pv, toV.pv, (vI degree)] (.tup [(polyPV []), (.iface 57 (vI 3))]) :=
  Contract.ofL Tryz.func12 (by kernel_rfl) (L.done mixed tabOk (n := 84) (ns := [1, 1, 1, 1, 1, 1, 1, 1, 1, 1, 1, 1, 1]) (tr := [.reg [], .reg [.none, (.pv (vB val)), .none, .none, .none, (.pv (vI sig)), .none, (.dec false), .none, .skip, .skip, .skip, (.dec true), .none, .skip, .skip, .skip], .auto, .reg []]) (cj h1 (cj (bnot_f h2) (cj (bnot_f h2) (cj h3 (cj (bnot_f h2) (cj (bnot_f h2) (cj (dle_t h4) (cj (dle_t h4) (cj (dle_t h4) (cj (dle_t h4) (cj (Eq.refl true) (cj (Eq.refl true) (cj (Eq.refl true) True.intro))))))))))))) (by kernel_rfl))
theorem e2 (length fromV toV : ARat) (degree : Int) (val : Bool) (sig : Int) (val1 : Bool) (h1 : Contract prg 50 [length.pv] (vB val)) (h2 : val = true) (h3 : Contract prg 39 [length.pv] (vI sig)) (h4 : 0 < sig) (h5 : Contract prg 50 [fromV.pv] (vB val1)) (h6 : val1 = false) : Contract prg 12 [length.pv, fromV.pv, toV.pv, (vI degree)] (.tup [(polyPV []), (.iface 57 (vI 3))]) :=
  Contract.ofL Tryz.func12 (by kernel_rfl) (L.done mixed tabOk (n := 84) (ns := [1, 1, 1, 1, 1, 1, 1, 1, 1, 1, 1, 1, 1, 1, 1]) (tr := [.reg [], .reg [.none, (.pv (vB val)), .none, .none, .none, (.pv (vI sig)), .none, (.dec false), .none, .none, (.pv (vB val1)), .none, (.dec false), .none, .skip, .skip, .skip, (.dec true)], .auto, .reg []]) (cj h1 (cj (bnot_f h2) (cj (bnot_f h2) (cj h3 (cj (bnot_f h2) (cj (bnot_f h2) (cj (dle_f h4) (cj (dle_f h4) (cj h5 (cj (dle_f h4) (cj (dle_f h4) (cj (bnot_t h6) (cj (bnot_t h6) (cj (bnot_t h6) (cj (bnot_t h6) True.intro))))))))))))))) (by kernel_rfl))
theorem e3 (length fromV toV : ARat) (degree : Int) (val : Bool) (sig : Int) (val1 val2 : Bool) (h1 : Contract prg 50 [length.pv] (vB val)) (h2 : val = true) (h3 : Contract prg 39 [length.pv] (vI sig)) (h4 : 0 < sig) (h5 : Contract prg 50 [fromV.pv] (vB val1)) (h6 : val1 = true) (h7 : Contract prg 50 [toV.pv] (vB val2)) (h8 : val2 = false) : Contract prg 12 [length.pv, fromV.pv, toV.pv, (vI degree)] (.tup [(polyPV []), (.iface 57 (vI 3))]) :=
  Contract.ofL Tryz.func12 (by kernel_rfl) (L.done mixed tabOk (n := 84) (ns := [1, 1, 1, 1, 1, 1, 1, 1, 1, 1, 1, 1, 1, 1, 1, 1, 1]) (tr := [.reg [], .reg [.none, (.pv (vB val)), .none, .none, .none, (.pv (vI sig)), .none, (.dec false), .none, .none, (.pv (vB val1)), .none, (.dec false), .none, .none, (.pv (vB val2)), .none, (.dec false)], .dec true, .reg []]) (cj h1 (cj (bnot_f h2) (cj (bnot_f h2) (cj h3 (cj (bnot_f h2) (cj (bnot_f h2) (cj (dle_f h4) (cj (dle_f h4) (cj h5 (cj (dle_f h4) (cj (dle_f h4) (cj (bnot_f h6) (cj (bnot_f h6) (cj h7 (cj (bnot_f h6) (cj (bnot_f h6) (cj (bnot_t h8) True.intro))))))))))))))))) (by kernel_rfl))
theorem e4 (length fromV toV : ARat) (degree : Int) (val : Bool) (sig : Int) (val1 val2 : Bool) (sub one div one1 : ARat) {r : PV} (h1 : Contract prg 50 [length.pv] (vB val)) (h2 : val = true) (h3 : Contract prg 39 [length.pv] (vI sig)) (h4 : 0 < sig) (h5 : Contract prg 50 [fromV.pv] (vB val1)) (h6 : val1 = true) (h7 : Contract prg 50 [toV.pv] (vB val2)) (h8 : val2 = true) (h9 : degree = 1) (h10 : Contract prg 51 [toV.pv, fromV.pv] sub.pv) (h11 : Contract prg 53 [] one.pv) (h12 : Contract prg 52 [one.pv, length.pv] (.tup [div.pv, .nilI])) (h13 : Contract prg 53 [] one1.pv) (hL : Loop1 [] [0, 1] 2 0 fromV sub div one1 r) : Contract prg 12 [length.pv, fromV.pv, toV.pv, (vI degree)] r :=
  Contract.ofL Tryz.func12 (by kernel_rfl) (L.go mixed tabOk (n := 168) (ns := [1, 1, 1, 1, 1, 1, 1, 1, 1, 1, 1, 1, 1, 1, 1, 1, 1, 1, 1, 1, 1, 1]) (tr := [.reg [], .reg [.none, (.pv (vB val)), .none, .none, .none, (.pv (vI sig)), .none, (.dec false), .none, .none, (.pv (vB val1)), .none, (.dec false), .none, .none, (.pv (vB val2)), .none, (.dec false)], .dec false, .reg [], .reg [], .reg [], .dec true, .reg [], .reg [.none, .none, (.pv sub.pv)], dr 8 1 [(.pv one.pv), .none, (.pv (.tup [div.pv, .nilI]))], .reg [], .auto, .reg [(.pv one1.pv)], .reg [.nil], .adopt 15 81 3, .reg [], .keep [5, 11, 12, 14, 15, 62, 63, 64], .drop [6, 4], .ord [5, 11, 12, 14, 42, 81]]) (cj h1 (cj (bnot_f h2) (cj (bnot_f h2) (cj h3 (cj (bnot_f h2) (cj (bnot_f h2) (cj (dle_f h4) (cj (dle_f h4) (cj h5 (cj (dle_f h4) (cj (dle_f h4) (cj (bnot_f h6) (cj (bnot_f h6) (cj h7 (cj (bnot_f h6) (cj (bnot_f h6) (cj (bnot_f h8) (cj (deq_t h9) (cj h10 (cj h11 (cj h12 (cj h13 True.intro)))))))))))))))))))))) (by kernel_rfl) hL)
theorem e5 (length fromV toV : ARat) (degree : Int) (val : Bool) (sig : Int) (val1 val2 : Bool) (sub one div : ARat) (div1 : Int) (h1 : Contract prg 50 [length.pv] (vB val)) (h2 : val = true) (h3 : Contract prg 39 [length.pv] (vI sig)) (h4 : 0 < sig) (h5 : Contract prg 50 [fromV.pv] (vB val1)) (h6 : val1 = true) (h7 : Contract prg 50 [toV.pv] (vB val2)) (h8 : val2 = true) (h9 : degree = 1) (h10 : Contract prg 51 [toV.pv, fromV.pv] sub.pv) (h11 : Contract prg 53 [] one.pv) (h12 : Contract prg 52 [one.pv, length.pv] (.tup [div.pv, (.iface 57 (vI div1))])) : Contract prg 12 [length.pv, fromV.pv, toV.pv, (vI degree)] (.tup [(polyPV []), (.iface 57 (vI div1))]) :=
  Contract.ofL Tryz.func12 (by kernel_rfl) (L.done mixed tabOk (n := 144) (ns := [1, 1, 1, 1, 1, 1, 1, 1, 1, 1, 1, 1, 1, 1, 1, 1, 1, 1, 1, 1, 1]) (tr := [.reg [], .reg [.none, (.pv (vB val)), .none, .none, .none, (.pv (vI sig)), .none, (.dec false), .none, .none, (.pv (vB val1)), .none, (.dec false), .none, .none, (.pv (vB val2)), .none, (.dec false)], .dec false, .reg [], .reg [], .reg [], .dec true, .reg [], .reg [.none, .none, (.pv sub.pv)], dr 8 1 [(.pv one.pv), .none, (.pv (.tup [div.pv, (.iface 57 (vI div1))]))], .reg [], .auto, .reg []]) (cj h1 (cj (bnot_f h2) (cj (bnot_f h2) (cj h3 (cj (bnot_f h2) (cj (bnot_f h2) (cj (dle_f h4) (cj (dle_f h4) (cj h5 (cj (dle_f h4) (cj (dle_f h4) (cj (bnot_f h6) (cj (bnot_f h6) (cj h7 (cj (bnot_f h6) (cj (bnot_f h6) (cj (bnot_f h8) (cj (deq_t h9) (cj h10 (cj h11 (cj h12 True.intro))))))))))))))))))))) (by kernel_rfl))
theorem e6 (length fromV toV : ARat) (degree : Int) (val : Bool) (sig : Int) (val1 val2 : Bool) (sub one div one1 : ARat) {r : PV} (h1 : Contract prg 50 [length.pv] (vB val)) (h2 : val = true) (h3 : Contract prg 39 [length.pv] (vI sig)) (h4 : 0 < sig) (h5 : Contract prg 50 [fromV.pv] (vB val1)) (h6 : val1 = true) (h7 : Contract prg 50 [toV.pv] (vB val2)) (h8 : val2 = true) (h9 : degree ≠ 1) (h10 : degree = 3) (h11 : Contract prg 51 [toV.pv, fromV.pv] sub.pv) (h12 : Contract prg 53 [] one.pv) (h13 : Contract prg 52 [one.pv, length.pv] (.tup [div.pv, .nilI])) (h14 : Contract prg 53 [] one1.pv) (hL : Loop1 [] [0, 0, 3, (-2)] 4 0 fromV sub div one1 r) : Contract prg 12 [length.pv, fromV.pv, toV.pv, (vI degree)] r :=
  Contract.ofL Tryz.func12 (by kernel_rfl) (L.go mixed tabOk (n := 177) (ns := [1, 1, 1, 1, 1, 1, 1, 1, 1, 1, 1, 1, 1, 1, 1, 1, 1, 1, 1, 1, 1, 1, 1]) (tr := [.reg [], .reg [.none, (.pv (vB val)), .none, .none, .none, (.pv (vI sig)), .none, (.dec false), .none, .none, (.pv (vB val1)), .none, (.dec false), .none, .none, (.pv (vB val2)), .none, (.dec false)], .dec false, .reg [], .reg [], .reg [], .dec false, .reg [], .dec true, .reg [], .reg [.none, .none, (.pv sub.pv)], dr 8 1 [(.pv one.pv), .none, (.pv (.tup [div.pv, .nilI]))], .reg [], .auto, .reg [(.pv one1.pv)], .reg [.nil], .adopt 15 81 3, .reg [], .keep [5, 11, 12, 14, 15, 62, 63, 64], .drop [6, 4], .ren 45 42, .ord [5, 11, 12, 14, 42, 81]]) (cj h1 (cj (bnot_f h2) (cj (bnot_f h2) (cj h3 (cj (bnot_f h2) (cj (bnot_f h2) (cj (dle_f h4) (cj (dle_f h4) (cj h5 (cj (dle_f h4) (cj (dle_f h4) (cj (bnot_f h6) (cj (bnot_f h6) (cj h7 (cj (bnot_f h6) (cj (bnot_f h6) (cj (bnot_f h8) (cj (deq_f h9) (cj (deq_t h10) (cj h11 (cj h12 (cj h13 (cj h14 True.intro))))))))))))))))))))))) (by kernel_rfl) hL)
theorem e7 (length fromV toV : ARat) (degree : Int) (val : Bool) (sig : Int) (val1 val2 : Bool) (sub one div : ARat) (div1 : Int) (h1 : Contract prg 50 [length.pv] (vB val)) (h2 : val = true) (h3 : Contract prg 39 [length.pv] (vI sig)) (h4 : 0 < sig) (h5 : Contract prg 50 [fromV.pv] (vB val1)) (h6 : val1 = true) (h7 : Contract prg 50 [toV.pv] (vB val2)) (h8 : val2 = true) (h9 : degree ≠ 1) (h10 : degree = 3) (h11 : Contract prg 51 [toV.pv, fromV.pv] sub.pv) (h12 : Contract prg 53 [] one.pv) (h13 : Contract prg 52 [one.pv, length.pv] (.tup [div.pv, (.iface 57 (vI div1))])) : Contract prg 12 [length.pv, fromV.pv, toV.pv, (vI degree)] (.tup [(polyPV []), (.iface 57 (vI div1))]) :=
  Contract.ofL Tryz.func12 (by kernel_rfl) (L.done mixed tabOk (n := 153) (ns := [1, 1, 1, 1, 1, 1, 1, 1, 1, 1, 1, 1, 1, 1, 1, 1, 1, 1, 1, 1, 1, 1]) (tr := [.reg [], .reg [.none, (.pv (vB val)), .none, .none, .none, (.pv (vI sig)), .none, (.dec false), .none, .none, (.pv (vB val1)), .none, (.dec false), .none, .none, (.pv (vB val2)), .none, (.dec false)], .dec false, .reg [], .reg [], .reg [], .dec false, .reg [], .dec true, .reg [], .reg [.none, .none, (.pv sub.pv)], dr 8 1 [(.pv one.pv), .none, (.pv (.tup [div.pv, (.iface 57 (vI div1))]))], .reg [], .auto, .reg []]) (cj h1 (cj (bnot_f h2) (cj (bnot_f h2) (cj h3 (cj (bnot_f h2) (cj (bnot_f h2) (cj (dle_f h4) (cj (dle_f h4) (cj h5 (cj (dle_f h4) (cj (dle_f h4) (cj (bnot_f h6) (cj (bnot_f h6) (cj h7 (cj (bnot_f h6) (cj (bnot_f h6) (cj (bnot_f h8) (cj (deq_f h9) (cj (deq_t h10) (cj h11 (cj h12 (cj h13 True.intro)))))))))))))))))))))) (by kernel_rfl))
theorem e8 (length fromV toV : ARat) (degree : Int) (val : Bool) (sig : Int) (val1 val2 : Bool) (sub one div one1 : ARat) {r : PV} (h1 : Contract prg 50 [length.pv] (vB val)) (h2 : val = true) (h3 : Contract prg 39 [length.pv] (vI sig)) (h4 : 0 < sig) (h5 : Contract prg 50 [fromV.pv] (vB val1)) (h6 : val1 = true) (h7 : Contract prg 50 [toV.pv] (vB val2)) (h8 : val2 = true) (h9 : degree ≠ 1) (h10 : degree ≠ 3) (h11 : degree = 5) (h12 : Contract prg 51 [toV.pv, fromV.pv] sub.pv) (h13 : Contract prg 53 [] one.pv) (h14 : Contract prg 52 [one.pv, length.pv] (.tup [div.pv, .nilI])) (h15 : Contract prg 53 [] one1.pv) (hL : Loop1 [] [0, 0, 0, 10, (-15), 6] 6 0 fromV sub div one1 r) : Contract prg 12 [length.pv, fromV.pv, toV.pv, (vI degree)] r :=
  Contract.ofL Tryz.func12 (by kernel_rfl) (L.go mixed tabOk (n := 186) (ns := [1, 1, 1, 1, 1, 1, 1, 1, 1, 1, 1, 1, 1, 1, 1, 1, 1, 1, 1, 1, 1, 1, 1, 1]) (tr := [.reg [], .reg [.none, (.pv (vB val)), .none, .none, .none, (.pv (vI sig)), .none, (.dec false), .none, .none, (.pv (vB val1)), .none, (.dec false), .none, .none, (.pv (vB val2)), .none, (.dec false)], .dec false, .reg [], .reg [], .reg [], .dec false, .reg [], .dec false, .reg [], .dec true, .reg [], .reg [.none, .none, (.pv sub.pv)], dr 8 1 [(.pv one.pv), .none, (.pv (.tup [div.pv, .nilI]))], .reg [], .auto, .reg [(.pv one1.pv)], .reg [.nil], .adopt 15 81 3, .reg [], .keep [5, 11, 12, 14, 15, 62, 63, 64], .drop [6, 4], .ren 48 42, .ord [5, 11, 12, 14, 42, 81]]) (cj h1 (cj (bnot_f h2) (cj (bnot_f h2) (cj h3 (cj (bnot_f h2) (cj (bnot_f h2) (cj (dle_f h4) (cj (dle_f h4) (cj h5 (cj (dle_f h4) (cj (dle_f h4) (cj (bnot_f h6) (cj (bnot_f h6) (cj h7 (cj (bnot_f h6) (cj (bnot_f h6) (cj (bnot_f h8) (cj (deq_f h9) (cj (deq_f h10) (cj (deq_t h11) (cj h12 (cj h13 (cj h14 (cj h15 True.intro)))))))))))))))))))))))) (by kernel_rfl) hL)
theorem e9 (length fromV toV : ARat) (degree : Int) (val : Bool) (sig : Int) (val1 val2 : Bool) (sub one div : ARat) (div1 : Int) (h1 : Contract prg 50 [length.pv] (vB val)) (h2 : val = true) (h3 : Contract prg 39 [length.pv] (vI sig)) (h4 : 0 < sig) (h5 : Contract prg 50 [fromV.pv] (vB val1)) (h6 : val1 = true) (h7 : Contract prg 50 [toV.pv] (vB val2)) (h8 : val2 = true) (h9 : degree ≠ 1) (h10 : degree ≠ 3) (h11 : degree = 5) (h12 : Contract prg 51 [toV.pv, fromV.pv] sub.pv) (h13 : Contract prg 53 [] one.pv) (h14 : Contract prg 52 [one.pv, length.pv] (.tup [div.pv, (.iface 57 (vI div1))])) : Contract prg 12 [length.pv, fromV.pv, toV.pv, (vI degree)] (.tup [(polyPV []), (.iface 57 (vI div1))]) :=
  Contract.ofL Tryz.func12 (by kernel_rfl) (L.done mixed tabOk (n := 162) (ns := [1, 1, 1, 1, 1, 1, 1, 1, 1, 1, 1, 1, 1, 1, 1, 1, 1, 1, 1, 1, 1, 1, 1]) (tr := [.reg [], .reg [.none, (.pv (vB val)), .none, .none, .none, (.pv (vI sig)), .none, (.dec false), .none, .none, (.pv (vB val1)), .none, (.dec false), .none, .none, (.pv (vB val2)), .none, (.dec false)], .dec false, .reg [], .reg [], .reg [], .dec false, .reg [], .dec false, .reg [], .dec true, .reg [], .reg [.none, .none, (.pv sub.pv)], dr 8 1 [(.pv one.pv), .none, (.pv (.tup [div.pv, (.iface 57 (vI div1))]))], .reg [], .auto, .reg []]) (cj h1 (cj (bnot_f h2) (cj (bnot_f h2) (cj h3 (cj (bnot_f h2) (cj (bnot_f h2) (cj (dle_f h4) (cj (dle_f h4) (cj h5 (cj (dle_f h4) (cj (dle_f h4) (cj (bnot_f h6) (cj (bnot_f h6) (cj h7 (cj (bnot_f h6) (cj (bnot_f h6) (cj (bnot_f h8) (cj (deq_f h9) (cj (deq_f h10) (cj (deq_t h11) (cj h12 (cj h13 (cj h14 True.intro))))))))))))))))))))))) (by kernel_rfl))
theorem e10 (length fromV toV : ARat) (degree : Int) (val : Bool) (sig : Int) (val1 val2 : Bool) (h1 : Contract prg 50 [length.pv] (vB val)) (h2 : val = true) (h3 : Contract prg 39 [length.pv] (vI sig)) (h4 : 0 < sig) (h5 : Contract prg 50 [fromV.pv] (vB val1)) (h6 : val1 = true) (h7 : Contract prg 50 [toV.pv] (vB val2)) (h8 : val2 = true) (h9 : degree ≠ 1) (h10 : degree ≠ 3) (h11 : degree ≠ 5) : Contract prg 12 [length.pv, fromV.pv, toV.pv, (vI degree)] (.tup [(polyPV []), (.iface 57 (vI 7))]) :=
  Contract.ofL Tryz.func12 (by kernel_rfl) (L.done mixed tabOk (n := 132) (ns := [1, 1, 1, 1, 1, 1, 1, 1, 1, 1, 1, 1, 1, 1, 1, 1, 1, 1, 1, 1]) (tr := [.reg [], .reg [.none, (.pv (vB val)), .none, .none, .none, (.pv (vI sig)), .none, (.dec false), .none, .none, (.pv (vB val1)), .none, (.dec false), .none, .none, (.pv (vB val2)), .none, (.dec false)], .dec false, .reg [], .reg [], .reg [], .dec false, .reg [], .dec false, .reg [], .dec false, .reg []]) (cj h1 (cj (bnot_f h2) (cj (bnot_f h2) (cj h3 (cj (bnot_f h2) (cj (bnot_f h2) (cj (dle_f h4) (cj (dle_f h4) (cj h5 (cj (dle_f h4) (cj (dle_f h4) (cj (bnot_f h6) (cj (bnot_f h6) (cj h7 (cj (bnot_f h6) (cj (bnot_f h6) (cj (bnot_f h8) (cj (deq_f h9) (cj (deq_f h10) (cj (deq_f h11) True.intro)))))))))))))))))))) (by kernel_rfl))
theorem l10 (site_81 : List ARat) (site_42 : List Int) (t_63 t_64 : Nat) (fromV sub div site_14 : ARat) (v : Int) (of mul mul1 mul2 : ARat) {r : PV} (h1 : t_64 < t_63) (h2 : t_64 < site_42.length) (h3 : site_42[t_64]? = some v) (h4 : Contract prg 33 [(vI v)] of.pv) (h5 : Contract prg 54 [of.pv, site_14.pv] mul.pv) (h6 : Contract prg 54 [sub.pv, mul.pv] mul1.pv) (h7 : t_64 = 0) (h8 : ((site_81 ++ [fromV]) : List ARat).length * 56 ≤ 140737488355328) (h9 : Contract prg 54 [site_14.pv, div.pv] mul2.pv) (h10 : (t_64 + 1) < 9223372036854775808) (hL : Loop1 (site_81 ++ [fromV]) site_42 t_63 (t_64 + 1) fromV sub div mul2 r) : Loop1 site_81 site_42 t_63 t_64 fromV sub div site_14 r :=
  L.go mixed tabOk (n := 234) (ns := [1, 2, 1, 1, 1, 1, 1, 6, 1, 1]) (tr := [.auto, .reg [], .dec true, .reg [.none, (.nat t_64), (.ev (.pv (vI v)))], dr 7 1 [.none, .none, (.pv of.pv), .none, (.pv mul.pv), (.pv mul1.pv)], .reg [], .dec true, .reg [], .reg [.none, .none, .none, (.app ((site_81 ++ [fromV]) : List ARat).length (((site_81 ++ [fromV]) : List ARat).map ARat.cells).flatten)], .reg [.none, .none, (.pv mul2.pv)], .reg [(iI (((t_64 + 1) : Nat) : Int))], .keep [5, 11, 12, 14, 15, 62, 63, 64], .drop [80, 18], .ord [5, 11, 12, 14, 42, 81]]) (cj (dltN_t h1) (cj (cj (Eq.refl (((t_64 : Nat) : Int) : Int)) h2) (cj (o_get (enc := intCell) (f := fun a => (vI a)) (fun _ => rfl) h3) (cj h4 (cj h5 (cj h6 (cj (deqN_t h7) (cj (o_appR sz_ARat (site_81 : List ARat) ([fromV] : List ARat) 56 (Eq.refl (site_81 : List ARat).length) (Eq.refl ([fromV] : List ARat).length) h8 rfl) (cj h9 (cj (bs_addN h10) True.intro)))))))))) (by kernel_rfl) hL
theorem l11 (site_81 : List ARat) (site_42 : List Int) (t_63 t_64 : Nat) (fromV sub div site_14 : ARat) (v : Int) (of mul mul1 mul2 : ARat) {r : PV} (h1 : t_64 < t_63) (h2 : t_64 < site_42.length) (h3 : site_42[t_64]? = some v) (h4 : Contract prg 33 [(vI v)] of.pv) (h5 : Contract prg 54 [of.pv, site_14.pv] mul.pv) (h6 : Contract prg 54 [sub.pv, mul.pv] mul1.pv) (h7 : t_64 ≠ 0) (h8 : ((site_81 ++ [mul1]) : List ARat).length * 56 ≤ 140737488355328) (h9 : Contract prg 54 [site_14.pv, div.pv] mul2.pv) (h10 : (t_64 + 1) < 9223372036854775808) (hL : Loop1 (site_81 ++ [mul1]) site_42 t_63 (t_64 + 1) fromV sub div mul2 r) : Loop1 site_81 site_42 t_63 t_64 fromV sub div site_14 r :=
  L.go mixed tabOk (n := 234) (ns := [1, 2, 1, 1, 1, 1, 1, 6, 1, 1]) (tr := [.auto, .reg [], .dec true, .reg [.none, (.nat t_64), (.ev (.pv (vI v)))], dr 7 1 [.none, .none, (.pv of.pv), .none, (.pv mul.pv), (.pv mul1.pv)], .reg [], .dec false, .reg [.none, .none, .none, (.app ((site_81 ++ [mul1]) : List ARat).length (((site_81 ++ [mul1]) : List ARat).map ARat.cells).flatten)], .reg [.none, .none, (.pv mul2.pv)], .reg [(iI (((t_64 + 1) : Nat) : Int))], .keep [5, 11, 12, 14, 15, 62, 63, 64], .drop [80, 18], .ord [5, 11, 12, 14, 42, 81]]) (cj (dltN_t h1) (cj (cj (Eq.refl (((t_64 : Nat) : Int) : Int)) h2) (cj (o_get (enc := intCell) (f := fun a => (vI a)) (fun _ => rfl) h3) (cj h4 (cj h5 (cj h6 (cj (deqN_f h7) (cj (o_appR sz_ARat (site_81 : List ARat) ([mul1] : List ARat) 56 (Eq.refl (site_81 : List ARat).length) (Eq.refl ([mul1] : List ARat).length) h8 rfl) (cj h9 (cj (bs_addN h10) True.intro)))))))))) (by kernel_rfl) hL
theorem l12 (site_81 : List ARat) (site_42 : List Int) (t_63 t_64 : Nat) (fromV sub div site_14 : ARat) (tri : List ARat) (h1 : t_63 ≤ t_64) (h2 : Contract prg 55 [(polyPV site_81)] (polyPV tri)) : Loop1 site_81 site_42 t_63 t_64 fromV sub div site_14 (.tup [(polyPV tri), .nilI]) :=
  L.done mixed tabOk (n := 201) (ns := [1, 3, 1]) (tr := [.auto, .reg [], .dec false, .frzT 15 ((site_81 : List ARat).map ARat.cells), .reg [.none, (.pv (polyPV tri))]]) (cj (dltN_f h1) (cj (o_frz sz_ARat (site_81 : List ARat) (Eq.refl (site_81 : List ARat).length)) (cj h2 True.intro))) (by kernel_rfl)
end law_Rise

namespace law_Dwells
@[reducible] noncomputable def fn : Func := Tryz.f35
noncomputable def atK1 : List Itm := focus [0, 2, 0, 0, 2, 0, 2, 1, 2, 0, 2, 0, 2, 0, 0, 2, 0, 0] [.code (bodyOf fn)]
def inv1 (len_62 : Nat) (open_6 : Bool) (l : ALaw) (t_17 : Nat) (site_62 : List AArc) : St := ⟨[(1, (.ptr 1 0)), (5, (.row 62 0 len_62 6)), (6, (eB open_6)), (15, (.pv (lpv (lcell ARat.cells) l.pieces))), (16, (eI (l.pieces.length : Int))), (17, (eI (t_17 : Int)))], [(1, (.lit [(.pv (polyPV l.breaks)), (.pv (lpv (lcell ARat.cells) l.pieces))])), (62, (.pure ((site_62 : List AArc).map AArc.cells).flatten))]⟩
@[reducible] noncomputable def Loop1 (len_62 : Nat) (open_6 : Bool) (l : ALaw) (t_17 : Nat) (site_62 : List AArc) (r : PV) : Prop := L prg fn atK1 (inv1 len_62 open_6 l t_17 site_62) r
theorem e0 (l : ALaw) {r : PV} (h1 : Contract prg 24 [l.pv] .nilI) (hL : Loop1 0 false l 0 [] r) : Contract prg 35 [l.pv] r :=
  Contract.ofL Tryz.func35 (by kernel_rfl) (L.go mixed tabOk (n := 114) (ns := [1, 1]) (tr := [.reg [], .reg [.none, (.pv .nilI)], .reg [], .auto, .reg [.nil], .adopt 5 62 6, .reg [], .reg [.none, .none, (iI (l.pieces.length : Int))], .keep [1, 5, 6, 15, 16, 17], .ord [1, 62]]) (cj h1 (cj (o_len (lcell ARat.cells) l.pieces) True.intro)) (by kernel_rfl) hL)
theorem e1 (l : ALaw) (che : Int) (h1 : Contract prg 24 [l.pv] (.iface 57 (vI che))) : Contract prg 35 [l.pv] (.tup [(lpv AArc.cells []), (.iface 57 (vI che))]) :=
  Contract.ofL Tryz.func35 (by kernel_rfl) (L.done mixed tabOk (n := 90) (ns := [1]) (tr := [.reg [], .reg [.none, (.pv (.iface 57 (vI che)))], .reg [], .auto, .reg []]) (cj h1 True.intro) (by kernel_rfl))
theorem l10 (len_62 : Nat) (open_6 : Bool) (l : ALaw) (t_17 : Nat) (site_62 : List AArc) (v : List ARat) {r : PV} (h1 : t_17 < l.pieces.length) (h2 : l.pieces[t_17]? = some v) (h3 : 1 < v.length) (h4 : (t_17 + 1) < 9223372036854775808) (hL : Loop1 len_62 false l (t_17 + 1) site_62 r) : Loop1 len_62 open_6 l t_17 site_62 r :=
  L.go mixed tabOk (n := 174) (ns := [1, 3, 1, 1, 1]) (tr := [.auto, .reg [], .dec true, .reg [.none, (.row t_17 ((lcell ARat.cells) v))], .reg [.none, (iI (v.length : Int))], .dec true, .reg [], .reg [(iI (((t_17 + 1) : Nat) : Int))], .keep [1, 5, 6, 15, 16, 17]]) (cj (dltN_t h1) (cj (o_at (lcell ARat.cells) (Eq.refl (((t_17 : Nat) : Int) : Int)) h2) (cj (o_len ARat.cells v) (cj (dltN_t h3) (cj (bs_addN h4) True.intro))))) (by kernel_rfl) hL
theorem l11 (len_62 : Nat) (open_6 : Bool) (l : ALaw) (t_17 : Nat) (site_62 : List AArc) (v : List ARat) (k : Nat) (v1 : List ARat) (sam : Bool) (endV add : ARat) (k1 : Nat) (v2 : AArc) {r : PV} (h1 : t_17 < l.pieces.length) (h2 : l.pieces[t_17]? = some v) (h3 : v.length ≤ 1) (h4 : open_6 = true) (h5 : InI64 ((t_17 : Int) - 1)) (h6 : ((t_17 : Int) - 1) = (k : Int)) (h7 : l.pieces[k]? = some v1) (h8 : Contract prg 87 [(polyPV v1), (polyPV v)] (vB sam)) (h9 : sam = true) (h10 : InI64 ((len_62 : Int) - 1)) (h11 : Contract prg 88 [l.pv, (vI (t_17 : Int))] endV.pv) (h12 : Contract prg 32 [endV.pv, (⟨false, [], []⟩ : ARat).pv] add.pv) (h13 : ((len_62 : Int) - 1) = (k1 : Int)) (h14 : k1 < len_62) (h15 : site_62[k1]? = some v2) (h16 : (t_17 + 1) < 9223372036854775808) (hL : Loop1 len_62 true l (t_17 + 1) (site_62.set k1 (⟨v2.fromV, add⟩ : AArc)) r) : Loop1 len_62 open_6 l t_17 site_62 r :=
  L.go mixed tabOk (n := 183) (ns := [1, 3, 1, 1, 1, 1, 1, 1, 1, 1, 3, 1, 1, 1, 1, 1, 1, 1, 1, 1, 2, 2, 1]) (tr := [.auto, .reg [], .dec true, .reg [.none, (.row t_17 ((lcell ARat.cells) v))], .reg [.none, (iI (v.length : Int))], .dec false, .reg [.none, .none, .none, .none, .none, (iI ((t_17 : Int) - 1)), (.row k ((lcell ARat.cells) v1)), .none, .none, (.pv (vB sam)), (.dec true)], .dec true, .reg [.none, .none, .none, (iI ((len_62 : Int) - 1)), .none, .none, (.pv endV.pv), .none, (.pv add.pv), (.nat k1), .none, (.cells (.pure (((site_62.set k1 (⟨v2.fromV, add⟩ : AArc)) : List AArc).map AArc.cells).flatten))], .reg [], .reg [(iI (((t_17 + 1) : Nat) : Int))], .keep [1, 5, 6, 15, 16, 17]]) (cj (dltN_t h1) (cj (o_at (lcell ARat.cells) (Eq.refl (((t_17 : Nat) : Int) : Int)) h2) (cj (o_len ARat.cells v) (cj (dltN_f h3) (cj h4 (cj h4 (cj h4 (cj h4 (cj (bs_sub h5) (cj h4 (cj (o_at (lcell ARat.cells) h6 h7) (cj h4 (cj h4 (cj h4 (cj h8 (cj h4 (cj h9 (cj (bs_sub h10) (cj h11 (cj h12 (cj (cj h13 h14) (cj (o_setp sz_AArc h15 3 [(vB add.neg), (wordsPV add.num), (wordsPV add.den)] (⟨v2.fromV, add⟩ : AArc) rfl rfl) (cj (bs_addN h16) True.intro))))))))))))))))))))))) (by kernel_rfl) hL
theorem l12 (len_62 : Nat) (open_6 : Bool) (l : ALaw) (t_17 : Nat) (site_62 : List AArc) (v : List ARat) (k : Nat) (v1 : List ARat) (sam : Bool) (v2 add endV add1 : ARat) {r : PV} (h1 : t_17 < l.pieces.length) (h2 : l.pieces[t_17]? = some v) (h3 : v.length ≤ 1) (h4 : open_6 = true) (h5 : InI64 ((t_17 : Int) - 1)) (h6 : ((t_17 : Int) - 1) = (k : Int)) (h7 : l.pieces[k]? = some v1) (h8 : Contract prg 87 [(polyPV v1), (polyPV v)] (vB sam)) (h9 : sam = false) (h10 : l.breaks[t_17]? = some v2) (h11 : Contract prg 32 [v2.pv, (⟨false, [], []⟩ : ARat).pv] add.pv) (h12 : Contract prg 88 [l.pv, (vI (t_17 : Int))] endV.pv) (h13 : Contract prg 32 [endV.pv, (⟨false, [], []⟩ : ARat).pv] add1.pv) (h14 : site_62.length = len_62) (h15 : ((site_62 ++ [(⟨add, add1⟩ : AArc)]) : List AArc).length * 112 ≤ 140737488355328) (h16 : (t_17 + 1) < 9223372036854775808) (hL : Loop1 ((site_62 ++ [(⟨add, add1⟩ : AArc)]).length) true l (t_17 + 1) (site_62 ++ [(⟨add, add1⟩ : AArc)]) r) : Loop1 len_62 open_6 l t_17 site_62 r :=
  L.go mixed tabOk (n := 183) (ns := [1, 3, 1, 1, 1, 1, 1, 1, 1, 1, 3, 1, 1, 1, 1, 1, 1, 3, 1, 1, 1, 6, 1]) (tr := [.auto, .reg [], .dec true, .reg [.none, (.row t_17 ((lcell ARat.cells) v))], .reg [.none, (iI (v.length : Int))], .dec false, .reg [.none, .none, .none, .none, .none, (iI ((t_17 : Int) - 1)), (.row k ((lcell ARat.cells) v1)), .none, .none, (.pv (vB sam)), (.dec true)], .dec false, dr 15 2 [.none, .none, .none, .none, (.row t_17 (ARat.cells v2)), .none, .none, (.pv add.pv), .none, .none, (.pv endV.pv), .none, (.pv add1.pv), .none, .none, (.app ((site_62 ++ [(⟨add, add1⟩ : AArc)]) : List AArc).length (((site_62 ++ [(⟨add, add1⟩ : AArc)]) : List AArc).map AArc.cells).flatten)], .reg [], .reg [(iI (((t_17 + 1) : Nat) : Int))], .keep [1, 5, 6, 15, 16, 17], .drop [61], .ord [1, 62]]) (cj (dltN_t h1) (cj (o_at (lcell ARat.cells) (Eq.refl (((t_17 : Nat) : Int) : Int)) h2) (cj (o_len ARat.cells v) (cj (dltN_f h3) (cj h4 (cj h4 (cj h4 (cj h4 (cj (bs_sub h5) (cj h4 (cj (o_at (lcell ARat.cells) h6 h7) (cj h4 (cj h4 (cj h4 (cj h8 (cj h4 (cj h9 (cj (o_at ARat.cells (Eq.refl (((t_17 : Nat) : Int) : Int)) h10) (cj h11 (cj h12 (cj h13 (cj (o_appR sz_AArc (site_62 : List AArc) ([(⟨add, add1⟩ : AArc)] : List AArc) 112 h14 (Eq.refl ([(⟨add, add1⟩ : AArc)] : List AArc).length) h15 rfl) (cj (bs_addN h16) True.intro))))))))))))))))))))))) (by kernel_rfl) hL
theorem l13 (len_62 : Nat) (open_6 : Bool) (l : ALaw) (t_17 : Nat) (site_62 : List AArc) (v : List ARat) (v1 add endV add1 : ARat) {r : PV} (h1 : t_17 < l.pieces.length) (h2 : l.pieces[t_17]? = some v) (h3 : v.length ≤ 1) (h4 : open_6 = false) (h5 : l.breaks[t_17]? = some v1) (h6 : Contract prg 32 [v1.pv, (⟨false, [], []⟩ : ARat).pv] add.pv) (h7 : Contract prg 88 [l.pv, (vI (t_17 : Int))] endV.pv) (h8 : Contract prg 32 [endV.pv, (⟨false, [], []⟩ : ARat).pv] add1.pv) (h9 : site_62.length = len_62) (h10 : ((site_62 ++ [(⟨add, add1⟩ : AArc)]) : List AArc).length * 112 ≤ 140737488355328) (h11 : (t_17 + 1) < 9223372036854775808) (hL : Loop1 ((site_62 ++ [(⟨add, add1⟩ : AArc)]).length) true l (t_17 + 1) (site_62 ++ [(⟨add, add1⟩ : AArc)]) r) : Loop1 len_62 open_6 l t_17 site_62 r :=
  L.go mixed tabOk (n := 183) (ns := [1, 3, 1, 1, 1, 1, 1, 1, 1, 1, 1, 1, 1, 3, 1, 1, 1, 6, 1]) (tr := [.auto, .reg [], .dec true, .reg [.none, (.row t_17 ((lcell ARat.cells) v))], .reg [.none, (iI (v.length : Int))], .dec false, .reg [.none, .none, .skip, .skip, .skip, .skip, .skip, .skip, .skip, .skip, (.dec false)], .auto, dr 15 2 [.none, .none, .none, .none, (.row t_17 (ARat.cells v1)), .none, .none, (.pv add.pv), .none, .none, (.pv endV.pv), .none, (.pv add1.pv), .none, .none, (.app ((site_62 ++ [(⟨add, add1⟩ : AArc)]) : List AArc).length (((site_62 ++ [(⟨add, add1⟩ : AArc)]) : List AArc).map AArc.cells).flatten)], .reg [], .reg [(iI (((t_17 + 1) : Nat) : Int))], .keep [1, 5, 6, 15, 16, 17], .drop [61], .ord [1, 62]]) (cj (dltN_t h1) (cj (o_at (lcell ARat.cells) (Eq.refl (((t_17 : Nat) : Int) : Int)) h2) (cj (o_len ARat.cells v) (cj (dltN_f h3) (cj h4 (cj h4 (cj h4 (cj h4 (cj h4 (cj h4 (cj h4 (cj h4 (cj h4 (cj (o_at ARat.cells (Eq.refl (((t_17 : Nat) : Int) : Int)) h5) (cj h6 (cj h7 (cj h8 (cj (o_appR sz_AArc (site_62 : List AArc) ([(⟨add, add1⟩ : AArc)] : List AArc) 112 h9 (Eq.refl ([(⟨add, add1⟩ : AArc)] : List AArc).length) h10 rfl) (cj (bs_addN h11) True.intro))))))))))))))))))) (by kernel_rfl) hL
theorem l14 (len_62 : Nat) (open_6 : Bool) (l : ALaw) (t_17 : Nat) (site_62 : List AArc) (h1 : l.pieces.length ≤ t_17) (h2 : len_62 = site_62.length) : Loop1 len_62 open_6 l t_17 site_62 (.tup [(lpv AArc.cells site_62), .nilI]) :=
  L.done mixed tabOk (n := 147) (ns := [1, 3]) (tr := [.auto, .reg [], .dec false, .reg [], .frzT 2 ((site_62 : List AArc).map AArc.cells)]) (cj (dltN_f h1) (cj (o_frz sz_AArc (site_62 : List AArc) h2) True.intro)) (by kernel_rfl)
end law_Dwells

namespace law_same
@[reducible] noncomputable def fn : Func := Tryz.f87
theorem e0 (p q : List ARat) (h1 : p.length = q.length) (h2 : p.length = 0) : Contract prg 87 [(polyPV p), (polyPV q)] (vB true) :=
  Contract.ofL Tryz.func87 (by kernel_rfl) (L.done mixed tabOk (n := 72) (ns := [1, 1, 1, 1, 1, 1, 1, 1, 1, 1, 1, 1, 1, 1, 1, 1, 1, 1]) (tr := [.reg [], dr 20 1 [.none, (iI (p.length : Int)), .none, (iI (q.length : Int)), .none, .none, .none, (iI (p.length : Int)), .none, .none, .skip, .skip, .skip, .skip, .skip, .skip, .skip, .skip, (.dec true), (.dec true)]]) (cj (o_len ARat.cells p) (cj (o_len ARat.cells q) (cj (deqN_t h1) (cj (deqN_t h1) (cj (o_len ARat.cells p) (cj (deqN_t h1) (cj (deqN_t h1) (cj (deqN_t h2) (cj (deqN_t h2) (cj (deqN_t h2) (cj (deqN_t h2) (cj (deqN_t h2) (cj (deqN_t h2) (cj (deqN_t h2) (cj (deqN_t h2) (cj (deqN_t h1) (cj (deqN_t h2) (cj (deqN_t h1) True.intro)))))))))))))))))) (by kernel_rfl))
theorem e1 (p q : List ARat) (v v1 : ARat) (cmp : Int) (h1 : p.length = q.length) (h2 : p.length ≠ 0) (h3 : p[0]? = some v) (h4 : q[0]? = some v1) (h5 : Contract prg 38 [v.pv, v1.pv] (vI cmp)) : Contract prg 87 [(polyPV p), (polyPV q)] (vB (cmp == 0)) :=
  Contract.ofL Tryz.func87 (by kernel_rfl) (L.done mixed tabOk (n := 72) (ns := [1, 1, 1, 1, 1, 1, 1, 1, 1, 3, 1, 1, 1, 3, 1, 1, 1, 1, 1, 1, 1]) (tr := [.reg [], dr 20 1 [.none, (iI (p.length : Int)), .none, (iI (q.length : Int)), .none, .none, .none, (iI (p.length : Int)), .none, .none, .none, (.row 0 (ARat.cells v)), .none, .none, (.row 0 (ARat.cells v1)), .none, (.pv (vI cmp)), .none, (.dec false), (.dec true)]]) (cj (o_len ARat.cells p) (cj (o_len ARat.cells q) (cj (deqN_t h1) (cj (deqN_t h1) (cj (o_len ARat.cells p) (cj (deqN_t h1) (cj (deqN_t h1) (cj (deqN_f h2) (cj (deqN_f h2) (cj (o_at ARat.cells (Eq.refl (0 : Int)) h3) (cj (deqN_f h2) (cj (deqN_f h2) (cj (deqN_f h2) (cj (o_at ARat.cells (Eq.refl (0 : Int)) h4) (cj (deqN_f h2) (cj (deqN_f h2) (cj h5 (cj (deqN_f h2) (cj (deqN_t h1) (cj (deqN_f h2) (cj (deqN_t h1) True.intro))))))))))))))))))))) (by kernel_rfl))
theorem e2 (p q : List ARat) (h1 : p.length ≠ q.length) : Contract prg 87 [(polyPV p), (polyPV q)] (vB false) :=
  Contract.ofL Tryz.func87 (by kernel_rfl) (L.done mixed tabOk (n := 72) (ns := [1, 1, 1, 1, 1, 1, 1, 1]) (tr := [.reg [], dr 20 1 [.none, (iI (p.length : Int)), .none, (iI (q.length : Int)), .none, .none, .skip, .skip, .skip, .skip, .skip, .skip, .skip, .skip, .skip, .skip, .skip, .skip, .skip, (.dec false)]]) (cj (o_len ARat.cells p) (cj (o_len ARat.cells q) (cj (deqN_f h1) (cj (deqN_f h1) (cj (deqN_f h1) (cj (deqN_f h1) (cj (deqN_f h1) (cj (deqN_f h1) True.intro)))))))) (by kernel_rfl))
end law_same

namespace law_end
@[reducible] noncomputable def fn : Func := Tryz.f88
theorem e0 (l : ALaw) (i : Int) (k : Nat) (v : ARat) (h1 : InI64 (i + 1)) (h2 : (i + 1) < (l.breaks.length : Int)) (h3 : (i + 1) = (k : Int)) (h4 : l.breaks[k]? = some v) : Contract prg 88 [l.pv, (vI i)] v.pv :=
  Contract.ofL Tryz.func88 (by kernel_rfl) (L.done mixed tabOk (n := 84) (ns := [1, 1, 1, 1, 3]) (tr := [.reg [], .reg [.none, (iI (i + 1)), .none, .none, (iI (l.breaks.length : Int))], .dec true, .reg [.none, .none, .none, (iI (i + 1)), (.row k (ARat.cells v))]]) (cj (bs_add h1) (cj (o_len ARat.cells l.breaks) (cj (dlt_t h2) (cj (bs_add h1) (cj (o_at ARat.cells h3 h4) True.intro))))) (by kernel_rfl))
theorem e1 (l : ALaw) (i : Int) (one : ARat) (h1 : InI64 (i + 1)) (h2 : (l.breaks.length : Int) ≤ (i + 1)) (h3 : Contract prg 53 [] one.pv) : Contract prg 88 [l.pv, (vI i)] one.pv :=
  Contract.ofL Tryz.func88 (by kernel_rfl) (L.done mixed tabOk (n := 87) (ns := [1, 1, 1, 1]) (tr := [.reg [], .reg [.none, (iI (i + 1)), .none, .none, (iI (l.breaks.length : Int))], .dec false, .reg [(.pv one.pv)]]) (cj (bs_add h1) (cj (o_len ARat.cells l.breaks) (cj (dlt_f h2) (cj h3 True.intro)))) (by kernel_rfl))
end law_end

namespace law_Check
@[reducible] noncomputable def fn : Func := Tryz.f24
noncomputable def atK1 : List Itm := focus [0, 2, 0, 0, 2, 1, 2, 0, 0, 2, 1, 2, 0, 0, 2, 0, 0] [.code (bodyOf fn)]
def inv1 (l : ALaw) (t_30 : Nat) : St := ⟨[(1, (.ptr 1 0)), (28, (.pv (polyPV l.breaks))), (29, (eI (l.breaks.length : Int))), (30, (eI (t_30 : Int)))], [(1, (.lit [(.pv (polyPV l.breaks)), (.pv (lpv (lcell ARat.cells) l.pieces))]))]⟩
@[reducible] noncomputable def Loop1 (l : ALaw) (t_30 : Nat) (r : PV) : Prop := L prg fn atK1 (inv1 l t_30) r
noncomputable def atK2 : List Itm := focus [0, 2, 0, 0, 2, 1, 2, 0, 0, 2, 1, 2, 0, 0, 2, 0, 0, 0, 0, 2, 0, 1, 2, 2, 2, 2, 0, 0, 2, 0, 0] [.code (bodyOf fn)]
def inv2 (l : ALaw) (t_77 : Nat) : St := ⟨[(75, (.pv (lpv (lcell ARat.cells) l.pieces))), (76, (eI (l.pieces.length : Int))), (77, (eI (t_77 : Int)))], []⟩
@[reducible] noncomputable def Loop2 (l : ALaw) (t_77 : Nat) (r : PV) : Prop := L prg fn atK2 (inv2 l t_77) r
theorem e0 (l : ALaw) (h1 : l.breaks.length = 0) : Contract prg 24 [l.pv] (.iface 57 (vI 10)) :=
  Contract.ofL Tryz.func24 (by kernel_rfl) (L.done mixed tabOk (n := 84) (ns := [1, 1, 1, 1, 1, 1, 1, 1, 1]) (tr := [.reg [], .reg [.none, .none, (iI (l.breaks.length : Int)), .none, .none, .skip, .skip, .skip, .skip, .skip, .skip, .skip, (.dec true)], .auto, .reg []]) (cj (o_len ARat.cells l.breaks) (cj (deqN_t h1) (cj (deqN_t h1) (cj (deqN_t h1) (cj (deqN_t h1) (cj (deqN_t h1) (cj (deqN_t h1) (cj (deqN_t h1) (cj (deqN_t h1) True.intro))))))))) (by kernel_rfl))
theorem e1 (l : ALaw) (h1 : l.breaks.length ≠ 0) (h2 : l.breaks.length ≠ l.pieces.length) : Contract prg 24 [l.pv] (.iface 57 (vI 10)) :=
  Contract.ofL Tryz.func24 (by kernel_rfl) (L.done mixed tabOk (n := 84) (ns := [1, 1, 1, 1, 1, 1, 1, 1, 1, 1, 1, 1]) (tr := [.reg [], .reg [.none, .none, (iI (l.breaks.length : Int)), .none, .none, .none, .none, (iI (l.breaks.length : Int)), .none, .none, (iI (l.pieces.length : Int)), .none, (.dec false)], .dec true, .reg []]) (cj (o_len ARat.cells l.breaks) (cj (deqN_f h1) (cj (deqN_f h1) (cj (deqN_f h1) (cj (o_len ARat.cells l.breaks) (cj (deqN_f h1) (cj (deqN_f h1) (cj (deqN_f h1) (cj (o_len (lcell ARat.cells) l.pieces) (cj (deqN_f h1) (cj (deqN_f h1) (cj (dneN_t h2) True.intro)))))))))))) (by kernel_rfl))
theorem e2 (l : ALaw) (h1 : l.breaks.length ≠ 0) (h2 : l.breaks.length = l.pieces.length) (h3 : 16 < l.breaks.length) : Contract prg 24 [l.pv] (.iface 57 (vI 4)) :=
  Contract.ofL Tryz.func24 (by kernel_rfl) (L.done mixed tabOk (n := 99) (ns := [1, 1, 1, 1, 1, 1, 1, 1, 1, 1, 1, 1, 1, 1]) (tr := [.reg [], .reg [.none, .none, (iI (l.breaks.length : Int)), .none, .none, .none, .none, (iI (l.breaks.length : Int)), .none, .none, (iI (l.pieces.length : Int)), .none, (.dec false)], .dec false, .reg [.none, .none, (iI (l.breaks.length : Int))], .dec true, .reg []]) (cj (o_len ARat.cells l.breaks) (cj (deqN_f h1) (cj (deqN_f h1) (cj (deqN_f h1) (cj (o_len ARat.cells l.breaks) (cj (deqN_f h1) (cj (deqN_f h1) (cj (deqN_f h1) (cj (o_len (lcell ARat.cells) l.pieces) (cj (deqN_f h1) (cj (deqN_f h1) (cj (dneN_f h2) (cj (o_len ARat.cells l.breaks) (cj (dltN_t h3) True.intro)))))))))))))) (by kernel_rfl))
theorem e3 (l : ALaw) {r : PV} (h1 : l.breaks.length ≠ 0) (h2 : l.breaks.length = l.pieces.length) (h3 : l.breaks.length ≤ 16) (hL : Loop1 l 0 r) : Contract prg 24 [l.pv] r :=
  Contract.ofL Tryz.func24 (by kernel_rfl) (L.go mixed tabOk (n := 111) (ns := [1, 1, 1, 1, 1, 1, 1, 1, 1, 1, 1, 1, 1, 1, 1]) (tr := [.reg [], .reg [.none, .none, (iI (l.breaks.length : Int)), .none, .none, .none, .none, (iI (l.breaks.length : Int)), .none, .none, (iI (l.pieces.length : Int)), .none, (.dec false)], .dec false, .reg [.none, .none, (iI (l.breaks.length : Int))], .dec false, .reg [.none, .none, (iI (l.breaks.length : Int))], .keep [1, 28, 29, 30]]) (cj (o_len ARat.cells l.breaks) (cj (deqN_f h1) (cj (deqN_f h1) (cj (deqN_f h1) (cj (o_len ARat.cells l.breaks) (cj (deqN_f h1) (cj (deqN_f h1) (cj (deqN_f h1) (cj (o_len (lcell ARat.cells) l.pieces) (cj (deqN_f h1) (cj (deqN_f h1) (cj (dneN_f h2) (cj (o_len ARat.cells l.breaks) (cj (dltN_f h3) (cj (o_len ARat.cells l.breaks) True.intro))))))))))))))) (by kernel_rfl) hL)
theorem l10 (l : ALaw) (t_30 : Nat) (v : ARat) (val : Bool) (h1 : t_30 < l.breaks.length) (h2 : l.breaks[t_30]? = some v) (h3 : Contract prg 50 [v.pv] (vB val)) (h4 : val = false) : Loop1 l t_30 (.iface 57 (vI 3)) :=
  L.done mixed tabOk (n := 159) (ns := [1, 3, 1, 1, 1, 1, 1, 1, 1, 1, 1]) (tr := [.auto, .reg [], .dec true, .reg [.none, (.row t_30 (ARat.cells v))], dr 14 0 [.none, (.pv (vB val)), .none, .none, .skip, .skip, .skip, (.dec true), .none, .skip, .skip, .skip, .skip], .auto, .reg []]) (cj (dltN_t h1) (cj (o_at ARat.cells (Eq.refl (((t_30 : Nat) : Int) : Int)) h2) (cj h3 (cj (bnot_t h4) (cj (bnot_t h4) (cj (bnot_t h4) (cj (bnot_t h4) (cj (Eq.refl true) (cj (Eq.refl true) (cj (Eq.refl true) (cj (Eq.refl true) True.intro))))))))))) (by kernel_rfl)
theorem l11 (l : ALaw) (t_30 : Nat) (v : ARat) (val : Bool) (sig : Int) (h1 : t_30 < l.breaks.length) (h2 : l.breaks[t_30]? = some v) (h3 : Contract prg 50 [v.pv] (vB val)) (h4 : val = true) (h5 : Contract prg 39 [v.pv] (vI sig)) (h6 : sig < 0) : Loop1 l t_30 (.iface 57 (vI 3)) :=
  L.done mixed tabOk (n := 159) (ns := [1, 3, 1, 1, 1, 1, 1, 1, 1, 1, 1, 1, 1]) (tr := [.auto, .reg [], .dec true, .reg [.none, (.row t_30 (ARat.cells v))], dr 14 0 [.none, (.pv (vB val)), .none, .none, .none, (.pv (vI sig)), .none, (.dec false), .none, .skip, .skip, .skip, .skip, (.dec true)], .auto, .reg []]) (cj (dltN_t h1) (cj (o_at ARat.cells (Eq.refl (((t_30 : Nat) : Int) : Int)) h2) (cj h3 (cj (bnot_f h4) (cj (bnot_f h4) (cj h5 (cj (bnot_f h4) (cj (bnot_f h4) (cj (dlt_t h6) (cj (dlt_t h6) (cj (dlt_t h6) (cj (dlt_t h6) (cj (dlt_t h6) True.intro))))))))))))) (by kernel_rfl)
theorem l12 (l : ALaw) (t_30 : Nat) (v : ARat) (val : Bool) (sig : Int) (one : ARat) (cmp : Int) (h1 : t_30 < l.breaks.length) (h2 : l.breaks[t_30]? = some v) (h3 : Contract prg 50 [v.pv] (vB val)) (h4 : val = true) (h5 : Contract prg 39 [v.pv] (vI sig)) (h6 : 0 ≤ sig) (h7 : Contract prg 53 [] one.pv) (h8 : Contract prg 38 [v.pv, one.pv] (vI cmp)) (h9 : 0 ≤ cmp) : Loop1 l t_30 (.iface 57 (vI 3)) :=
  L.done mixed tabOk (n := 159) (ns := [1, 3, 1, 1, 1, 1, 1, 1, 1, 1, 1, 1, 1, 1, 1, 1]) (tr := [.auto, .reg [], .dec true, .reg [.none, (.row t_30 (ARat.cells v))], dr 14 0 [.none, (.pv (vB val)), .none, .none, .none, (.pv (vI sig)), .none, (.dec false), .none, .none, (.pv one.pv), (.pv (vI cmp)), .none, (.dec false)], .dec true, .reg []]) (cj (dltN_t h1) (cj (o_at ARat.cells (Eq.refl (((t_30 : Nat) : Int) : Int)) h2) (cj h3 (cj (bnot_f h4) (cj (bnot_f h4) (cj h5 (cj (bnot_f h4) (cj (bnot_f h4) (cj (dlt_f h6) (cj (dlt_f h6) (cj h7 (cj (dlt_f h6) (cj h8 (cj (dlt_f h6) (cj (dlt_f h6) (cj (dle_t h9) True.intro)))))))))))))))) (by kernel_rfl)
theorem l13 (l : ALaw) (t_30 : Nat) (v : ARat) (val : Bool) (sig : Int) (one : ARat) (cmp sig1 : Int) (h1 : t_30 < l.breaks.length) (h2 : l.breaks[t_30]? = some v) (h3 : Contract prg 50 [v.pv] (vB val)) (h4 : val = true) (h5 : Contract prg 39 [v.pv] (vI sig)) (h6 : 0 ≤ sig) (h7 : Contract prg 53 [] one.pv) (h8 : Contract prg 38 [v.pv, one.pv] (vI cmp)) (h9 : cmp < 0) (h10 : t_30 = 0) (h11 : Contract prg 39 [v.pv] (vI sig1)) (h12 : sig1 ≠ 0) : Loop1 l t_30 (.iface 57 (vI 12)) :=
  L.done mixed tabOk (n := 171) (ns := [1, 3, 1, 1, 1, 1, 1, 1, 1, 1, 1, 1, 1, 1, 1, 1, 1, 1, 1, 1, 1, 1, 1, 1, 1, 1]) (tr := [.auto, .reg [], .dec true, .reg [.none, (.row t_30 (ARat.cells v))], dr 14 0 [.none, (.pv (vB val)), .none, .none, .none, (.pv (vI sig)), .none, (.dec false), .none, .none, (.pv one.pv), (.pv (vI cmp)), .none, (.dec false)], .dec false, dr 22 0 [.none, .none, .none, .none, (.pv (vI sig1)), .none, (.dec true), .none, .skip, .skip, .skip, .skip, .skip, .skip, .skip, .skip, .skip, .skip, .skip, .skip, .skip, (.dec true)], .auto, .reg []]) (cj (dltN_t h1) (cj (o_at ARat.cells (Eq.refl (((t_30 : Nat) : Int) : Int)) h2) (cj h3 (cj (bnot_f h4) (cj (bnot_f h4) (cj h5 (cj (bnot_f h4) (cj (bnot_f h4) (cj (dlt_f h6) (cj (dlt_f h6) (cj h7 (cj (dlt_f h6) (cj h8 (cj (dlt_f h6) (cj (dlt_f h6) (cj (dle_f h9) (cj (deqN_t h10) (cj (deqN_t h10) (cj h11 (cj (deqN_t h10) (cj (deqN_t h10) (cj (dne_t h12) (cj (dne_t h12) (cj (dne_t h12) (cj (dne_t h12) (cj (dne_t h12) True.intro)))))))))))))))))))))))))) (by kernel_rfl)
theorem l14 (l : ALaw) (t_30 : Nat) (v : ARat) (val : Bool) (sig : Int) (one : ARat) (cmp sig1 : Int) (k : Nat) (v1 : ARat) (cmp1 : Int) (h1 : t_30 < l.breaks.length) (h2 : l.breaks[t_30]? = some v) (h3 : Contract prg 50 [v.pv] (vB val)) (h4 : val = true) (h5 : Contract prg 39 [v.pv] (vI sig)) (h6 : 0 ≤ sig) (h7 : Contract prg 53 [] one.pv) (h8 : Contract prg 38 [v.pv, one.pv] (vI cmp)) (h9 : cmp < 0) (h10 : t_30 = 0) (h11 : Contract prg 39 [v.pv] (vI sig1)) (h12 : sig1 = 0) (h13 : 0 < t_30) (h14 : InI64 ((t_30 : Int) - 1)) (h15 : ((t_30 : Int) - 1) = (k : Int)) (h16 : l.breaks[k]? = some v1) (h17 : Contract prg 38 [v.pv, v1.pv] (vI cmp1)) (h18 : cmp1 ≤ 0) : Loop1 l t_30 (.iface 57 (vI 12)) :=
  L.done mixed tabOk (n := 171) (ns := [1, 3, 1, 1, 1, 1, 1, 1, 1, 1, 1, 1, 1, 1, 1, 1, 1, 1, 1, 1, 1, 1, 1, 1, 1, 1, 1, 1, 1, 1, 1, 3, 1, 1, 1, 1, 1, 1, 1, 1]) (tr := [.auto, .reg [], .dec true, .reg [.none, (.row t_30 (ARat.cells v))], dr 14 0 [.none, (.pv (vB val)), .none, .none, .none, (.pv (vI sig)), .none, (.dec false), .none, .none, (.pv one.pv), (.pv (vI cmp)), .none, (.dec false)], .dec false, dr 22 0 [.none, .none, .none, .none, (.pv (vI sig1)), .none, (.dec true), .none, .none, .none, .none, .none, .none, .none, .none, (iI ((t_30 : Int) - 1)), (.row k (ARat.cells v1)), .none, (.pv (vI cmp1)), .none, (.dec true), (.dec false)], .dec true, .reg []]) (cj (dltN_t h1) (cj (o_at ARat.cells (Eq.refl (((t_30 : Nat) : Int) : Int)) h2) (cj h3 (cj (bnot_f h4) (cj (bnot_f h4) (cj h5 (cj (bnot_f h4) (cj (bnot_f h4) (cj (dlt_f h6) (cj (dlt_f h6) (cj h7 (cj (dlt_f h6) (cj h8 (cj (dlt_f h6) (cj (dlt_f h6) (cj (dle_f h9) (cj (deqN_t h10) (cj (deqN_t h10) (cj h11 (cj (deqN_t h10) (cj (deqN_t h10) (cj (dne_f h12) (cj (dne_f h12) (cj (dne_f h12) (cj (dltN_t h13) (cj (dltN_t h13) (cj (dltN_t h13) (cj (dltN_t h13) (cj (dltN_t h13) (cj (bs_sub h14) (cj (dltN_t h13) (cj (o_at ARat.cells h15 h16) (cj (dltN_t h13) (cj (dltN_t h13) (cj h17 (cj (dltN_t h13) (cj (dne_f h12) (cj (dltN_t h13) (cj (dne_f h12) (cj (dle_t h18) True.intro)))))))))))))))))))))))))))))))))))))))) (by kernel_rfl)
theorem l15 (l : ALaw) (t_30 : Nat) (v : ARat) (val : Bool) (sig : Int) (one : ARat) (cmp sig1 : Int) (k : Nat) (v1 : ARat) (cmp1 : Int) {r : PV} (h1 : t_30 < l.breaks.length) (h2 : l.breaks[t_30]? = some v) (h3 : Contract prg 50 [v.pv] (vB val)) (h4 : val = true) (h5 : Contract prg 39 [v.pv] (vI sig)) (h6 : 0 ≤ sig) (h7 : Contract prg 53 [] one.pv) (h8 : Contract prg 38 [v.pv, one.pv] (vI cmp)) (h9 : cmp < 0) (h10 : t_30 = 0) (h11 : Contract prg 39 [v.pv] (vI sig1)) (h12 : sig1 = 0) (h13 : 0 < t_30) (h14 : InI64 ((t_30 : Int) - 1)) (h15 : ((t_30 : Int) - 1) = (k : Int)) (h16 : l.breaks[k]? = some v1) (h17 : Contract prg 38 [v.pv, v1.pv] (vI cmp1)) (h18 : 0 < cmp1) (h19 : (t_30 + 1) < 9223372036854775808) (hL : Loop1 l (t_30 + 1) r) : Loop1 l t_30 r :=
  L.go mixed tabOk (n := 174) (ns := [1, 3, 1, 1, 1, 1, 1, 1, 1, 1, 1, 1, 1, 1, 1, 1, 1, 1, 1, 1, 1, 1, 1, 1, 1, 1, 1, 1, 1, 1, 1, 3, 1, 1, 1, 1, 1, 1, 1, 1, 1]) (tr := [.auto, .reg [], .dec true, .reg [.none, (.row t_30 (ARat.cells v))], dr 14 0 [.none, (.pv (vB val)), .none, .none, .none, (.pv (vI sig)), .none, (.dec false), .none, .none, (.pv one.pv), (.pv (vI cmp)), .none, (.dec false)], .dec false, dr 22 0 [.none, .none, .none, .none, (.pv (vI sig1)), .none, (.dec true), .none, .none, .none, .none, .none, .none, .none, .none, (iI ((t_30 : Int) - 1)), (.row k (ARat.cells v1)), .none, (.pv (vI cmp1)), .none, (.dec true), (.dec false)], .dec false, .reg [(iI (((t_30 + 1) : Nat) : Int))], .keep [1, 28, 29, 30], .drop [4]]) (cj (dltN_t h1) (cj (o_at ARat.cells (Eq.refl (((t_30 : Nat) : Int) : Int)) h2) (cj h3 (cj (bnot_f h4) (cj (bnot_f h4) (cj h5 (cj (bnot_f h4) (cj (bnot_f h4) (cj (dlt_f h6) (cj (dlt_f h6) (cj h7 (cj (dlt_f h6) (cj h8 (cj (dlt_f h6) (cj (dlt_f h6) (cj (dle_f h9) (cj (deqN_t h10) (cj (deqN_t h10) (cj h11 (cj (deqN_t h10) (cj (deqN_t h10) (cj (dne_f h12) (cj (dne_f h12) (cj (dne_f h12) (cj (dltN_t h13) (cj (dltN_t h13) (cj (dltN_t h13) (cj (dltN_t h13) (cj (dltN_t h13) (cj (bs_sub h14) (cj (dltN_t h13) (cj (o_at ARat.cells h15 h16) (cj (dltN_t h13) (cj (dltN_t h13) (cj h17 (cj (dltN_t h13) (cj (dne_f h12) (cj (dltN_t h13) (cj (dne_f h12) (cj (dle_f h18) (cj (bs_addN h19) True.intro))))))))))))))))))))))))))))))))))))))))) (by kernel_rfl) hL
theorem l16 (l : ALaw) (t_30 : Nat) (v : ARat) (val : Bool) (sig : Int) (one : ARat) (cmp sig1 : Int) {r : PV} (h1 : t_30 < l.breaks.length) (h2 : l.breaks[t_30]? = some v) (h3 : Contract prg 50 [v.pv] (vB val)) (h4 : val = true) (h5 : Contract prg 39 [v.pv] (vI sig)) (h6 : 0 ≤ sig) (h7 : Contract prg 53 [] one.pv) (h8 : Contract prg 38 [v.pv, one.pv] (vI cmp)) (h9 : cmp < 0) (h10 : t_30 = 0) (h11 : Contract prg 39 [v.pv] (vI sig1)) (h12 : sig1 = 0) (h13 : t_30 ≤ 0) (h14 : (t_30 + 1) < 9223372036854775808) (hL : Loop1 l (t_30 + 1) r) : Loop1 l t_30 r :=
  L.go mixed tabOk (n := 174) (ns := [1, 3, 1, 1, 1, 1, 1, 1, 1, 1, 1, 1, 1, 1, 1, 1, 1, 1, 1, 1, 1, 1, 1, 1, 1, 1, 1, 1, 1, 1, 1, 1, 1, 1, 1, 1, 1]) (tr := [.auto, .reg [], .dec true, .reg [.none, (.row t_30 (ARat.cells v))], dr 14 0 [.none, (.pv (vB val)), .none, .none, .none, (.pv (vI sig)), .none, (.dec false), .none, .none, (.pv one.pv), (.pv (vI cmp)), .none, (.dec false)], .dec false, dr 22 0 [.none, .none, .none, .none, (.pv (vI sig1)), .none, (.dec true), .none, .none, .none, .none, .skip, .skip, .skip, .skip, .skip, .skip, .skip, .skip, .skip, (.dec false), (.dec false)], .auto, .reg [(iI (((t_30 + 1) : Nat) : Int))], .keep [1, 28, 29, 30], .drop [4]]) (cj (dltN_t h1) (cj (o_at ARat.cells (Eq.refl (((t_30 : Nat) : Int) : Int)) h2) (cj h3 (cj (bnot_f h4) (cj (bnot_f h4) (cj h5 (cj (bnot_f h4) (cj (bnot_f h4) (cj (dlt_f h6) (cj (dlt_f h6) (cj h7 (cj (dlt_f h6) (cj h8 (cj (dlt_f h6) (cj (dlt_f h6) (cj (dle_f h9) (cj (deqN_t h10) (cj (deqN_t h10) (cj h11 (cj (deqN_t h10) (cj (deqN_t h10) (cj (dne_f h12) (cj (dne_f h12) (cj (dne_f h12) (cj (dltN_f h13) (cj (dltN_f h13) (cj (dltN_f h13) (cj (dltN_f h13) (cj (dltN_f h13) (cj (dltN_f h13) (cj (dltN_f h13) (cj (dltN_f h13) (cj (dltN_f h13) (cj (dne_f h12) (cj (dltN_f h13) (cj (dne_f h12) (cj (bs_addN h14) True.intro))))))))))))))))))))))))))))))))))))) (by kernel_rfl) hL
theorem l17 (l : ALaw) (t_30 : Nat) (v : ARat) (val : Bool) (sig : Int) (one : ARat) (cmp : Int) (k : Nat) (v1 : ARat) (cmp1 : Int) (h1 : t_30 < l.breaks.length) (h2 : l.breaks[t_30]? = some v) (h3 : Contract prg 50 [v.pv] (vB val)) (h4 : val = true) (h5 : Contract prg 39 [v.pv] (vI sig)) (h6 : 0 ≤ sig) (h7 : Contract prg 53 [] one.pv) (h8 : Contract prg 38 [v.pv, one.pv] (vI cmp)) (h9 : cmp < 0) (h10 : t_30 ≠ 0) (h11 : 0 < t_30) (h12 : InI64 ((t_30 : Int) - 1)) (h13 : ((t_30 : Int) - 1) = (k : Int)) (h14 : l.breaks[k]? = some v1) (h15 : Contract prg 38 [v.pv, v1.pv] (vI cmp1)) (h16 : cmp1 ≤ 0) : Loop1 l t_30 (.iface 57 (vI 12)) :=
  L.done mixed tabOk (n := 171) (ns := [1, 3, 1, 1, 1, 1, 1, 1, 1, 1, 1, 1, 1, 1, 1, 1, 1, 1, 1, 1, 1, 1, 1, 1, 1, 1, 1, 1, 1, 1, 3, 1, 1, 1, 1, 1, 1, 1]) (tr := [.auto, .reg [], .dec true, .reg [.none, (.row t_30 (ARat.cells v))], dr 14 0 [.none, (.pv (vB val)), .none, .none, .none, (.pv (vI sig)), .none, (.dec false), .none, .none, (.pv one.pv), (.pv (vI cmp)), .none, (.dec false)], .dec false, dr 22 0 [.none, .none, .none, .skip, .skip, .skip, (.dec false), .none, .none, .none, .none, .none, .none, .none, .none, (iI ((t_30 : Int) - 1)), (.row k (ARat.cells v1)), .none, (.pv (vI cmp1)), .none, (.dec true)], .dec true, .reg []]) (cj (dltN_t h1) (cj (o_at ARat.cells (Eq.refl (((t_30 : Nat) : Int) : Int)) h2) (cj h3 (cj (bnot_f h4) (cj (bnot_f h4) (cj h5 (cj (bnot_f h4) (cj (bnot_f h4) (cj (dlt_f h6) (cj (dlt_f h6) (cj h7 (cj (dlt_f h6) (cj h8 (cj (dlt_f h6) (cj (dlt_f h6) (cj (dle_f h9) (cj (deqN_f h10) (cj (deqN_f h10) (cj (deqN_f h10) (cj (deqN_f h10) (cj (Eq.refl false) (cj (Eq.refl false) (cj (Eq.refl false) (cj (dltN_t h11) (cj (dltN_t h11) (cj (dltN_t h11) (cj (dltN_t h11) (cj (dltN_t h11) (cj (bs_sub h12) (cj (dltN_t h11) (cj (o_at ARat.cells h13 h14) (cj (dltN_t h11) (cj (dltN_t h11) (cj h15 (cj (dltN_t h11) (cj (Eq.refl false) (cj (dltN_t h11) (cj (dle_t h16) True.intro)))))))))))))))))))))))))))))))))))))) (by kernel_rfl)
theorem l18 (l : ALaw) (t_30 : Nat) (v : ARat) (val : Bool) (sig : Int) (one : ARat) (cmp : Int) (k : Nat) (v1 : ARat) (cmp1 : Int) {r : PV} (h1 : t_30 < l.breaks.length) (h2 : l.breaks[t_30]? = some v) (h3 : Contract prg 50 [v.pv] (vB val)) (h4 : val = true) (h5 : Contract prg 39 [v.pv] (vI sig)) (h6 : 0 ≤ sig) (h7 : Contract prg 53 [] one.pv) (h8 : Contract prg 38 [v.pv, one.pv] (vI cmp)) (h9 : cmp < 0) (h10 : t_30 ≠ 0) (h11 : 0 < t_30) (h12 : InI64 ((t_30 : Int) - 1)) (h13 : ((t_30 : Int) - 1) = (k : Int)) (h14 : l.breaks[k]? = some v1) (h15 : Contract prg 38 [v.pv, v1.pv] (vI cmp1)) (h16 : 0 < cmp1) (h17 : (t_30 + 1) < 9223372036854775808) (hL : Loop1 l (t_30 + 1) r) : Loop1 l t_30 r :=
  L.go mixed tabOk (n := 174) (ns := [1, 3, 1, 1, 1, 1, 1, 1, 1, 1, 1, 1, 1, 1, 1, 1, 1, 1, 1, 1, 1, 1, 1, 1, 1, 1, 1, 1, 1, 1, 3, 1, 1, 1, 1, 1, 1, 1, 1]) (tr := [.auto, .reg [], .dec true, .reg [.none, (.row t_30 (ARat.cells v))], dr 14 0 [.none, (.pv (vB val)), .none, .none, .none, (.pv (vI sig)), .none, (.dec false), .none, .none, (.pv one.pv), (.pv (vI cmp)), .none, (.dec false)], .dec false, dr 22 0 [.none, .none, .none, .skip, .skip, .skip, (.dec false), .none, .none, .none, .none, .none, .none, .none, .none, (iI ((t_30 : Int) - 1)), (.row k (ARat.cells v1)), .none, (.pv (vI cmp1)), .none, (.dec true)], .dec false, .reg [(iI (((t_30 + 1) : Nat) : Int))], .keep [1, 28, 29, 30], .drop [4]]) (cj (dltN_t h1) (cj (o_at ARat.cells (Eq.refl (((t_30 : Nat) : Int) : Int)) h2) (cj h3 (cj (bnot_f h4) (cj (bnot_f h4) (cj h5 (cj (bnot_f h4) (cj (bnot_f h4) (cj (dlt_f h6) (cj (dlt_f h6) (cj h7 (cj (dlt_f h6) (cj h8 (cj (dlt_f h6) (cj (dlt_f h6) (cj (dle_f h9) (cj (deqN_f h10) (cj (deqN_f h10) (cj (deqN_f h10) (cj (deqN_f h10) (cj (Eq.refl false) (cj (Eq.refl false) (cj (Eq.refl false) (cj (dltN_t h11) (cj (dltN_t h11) (cj (dltN_t h11) (cj (dltN_t h11) (cj (dltN_t h11) (cj (bs_sub h12) (cj (dltN_t h11) (cj (o_at ARat.cells h13 h14) (cj (dltN_t h11) (cj (dltN_t h11) (cj h15 (cj (dltN_t h11) (cj (Eq.refl false) (cj (dltN_t h11) (cj (dle_f h16) (cj (bs_addN h17) True.intro))))))))))))))))))))))))))))))))))))))) (by kernel_rfl) hL
theorem l19 (l : ALaw) (t_30 : Nat) (v : ARat) (val : Bool) (sig : Int) (one : ARat) (cmp : Int) {r : PV} (h1 : t_30 < l.breaks.length) (h2 : l.breaks[t_30]? = some v) (h3 : Contract prg 50 [v.pv] (vB val)) (h4 : val = true) (h5 : Contract prg 39 [v.pv] (vI sig)) (h6 : 0 ≤ sig) (h7 : Contract prg 53 [] one.pv) (h8 : Contract prg 38 [v.pv, one.pv] (vI cmp)) (h9 : cmp < 0) (h10 : t_30 ≠ 0) (h11 : t_30 ≤ 0) (h12 : (t_30 + 1) < 9223372036854775808) (hL : Loop1 l (t_30 + 1) r) : Loop1 l t_30 r :=
  L.go mixed tabOk (n := 174) (ns := [1, 3, 1, 1, 1, 1, 1, 1, 1, 1, 1, 1, 1, 1, 1, 1, 1, 1, 1, 1, 1, 1, 1, 1, 1, 1, 1, 1, 1, 1, 1, 1, 1, 1, 1]) (tr := [.auto, .reg [], .dec true, .reg [.none, (.row t_30 (ARat.cells v))], dr 14 0 [.none, (.pv (vB val)), .none, .none, .none, (.pv (vI sig)), .none, (.dec false), .none, .none, (.pv one.pv), (.pv (vI cmp)), .none, (.dec false)], .dec false, dr 22 0 [.none, .none, .none, .skip, .skip, .skip, (.dec false), .none, .none, .none, .none, .skip, .skip, .skip, .skip, .skip, .skip, .skip, .skip, .skip, (.dec false)], .auto, .reg [(iI (((t_30 + 1) : Nat) : Int))], .keep [1, 28, 29, 30], .drop [4]]) (cj (dltN_t h1) (cj (o_at ARat.cells (Eq.refl (((t_30 : Nat) : Int) : Int)) h2) (cj h3 (cj (bnot_f h4) (cj (bnot_f h4) (cj h5 (cj (bnot_f h4) (cj (bnot_f h4) (cj (dlt_f h6) (cj (dlt_f h6) (cj h7 (cj (dlt_f h6) (cj h8 (cj (dlt_f h6) (cj (dlt_f h6) (cj (dle_f h9) (cj (deqN_f h10) (cj (deqN_f h10) (cj (deqN_f h10) (cj (deqN_f h10) (cj (Eq.refl false) (cj (Eq.refl false) (cj (Eq.refl false) (cj (dltN_f h11) (cj (dltN_f h11) (cj (dltN_f h11) (cj (dltN_f h11) (cj (dltN_f h11) (cj (dltN_f h11) (cj (dltN_f h11) (cj (dltN_f h11) (cj (dltN_f h11) (cj (Eq.refl false) (cj (dltN_f h11) (cj (bs_addN h12) True.intro))))))))))))))))))))))))))))))))))) (by kernel_rfl) hL
theorem l110 (l : ALaw) (t_30 : Nat) {r : PV} (h1 : l.breaks.length ≤ t_30) (hL : Loop2 l 0 r) : Loop1 l t_30 r :=
  L.go mixed tabOk (n := 153) (ns := [1, 1]) (tr := [.auto, .reg [], .dec false, .reg [.none, .none, (iI (l.pieces.length : Int))], .keep [75, 76, 77], .drop [1]]) (cj (dltN_f h1) (cj (o_len (lcell ARat.cells) l.pieces) True.intro)) (by kernel_rfl) hL
theorem l20 (l : ALaw) (t_77 : Nat) (v : List ARat) (deg : Int) (h1 : t_77 < l.pieces.length) (h2 : l.pieces[t_77]? = some v) (h3 : Contract prg 61 [(polyPV v)] .nilI) (h4 : Contract prg 70 [(polyPV v)] (vI deg)) (h5 : 8 < deg) : Loop2 l t_77 (.iface 57 (vI 4)) :=
  L.done mixed tabOk (n := 219) (ns := [1, 3, 1, 1, 1]) (tr := [.auto, .reg [], .dec true, .reg [(.row t_77 ((lcell ARat.cells) v))], .reg [.none, (.pv .nilI)], .reg [], .auto, .reg [.none, (.pv (vI deg))], .dec true, .reg []]) (cj (dltN_t h1) (cj (o_at (lcell ARat.cells) (Eq.refl (((t_77 : Nat) : Int) : Int)) h2) (cj h3 (cj h4 (cj (dlt_t h5) True.intro))))) (by kernel_rfl)
theorem l21 (l : ALaw) (t_77 : Nat) (v : List ARat) (deg : Int) {r : PV} (h1 : t_77 < l.pieces.length) (h2 : l.pieces[t_77]? = some v) (h3 : Contract prg 61 [(polyPV v)] .nilI) (h4 : Contract prg 70 [(polyPV v)] (vI deg)) (h5 : deg ≤ 8) (h6 : (t_77 + 1) < 9223372036854775808) (hL : Loop2 l (t_77 + 1) r) : Loop2 l t_77 r :=
  L.go mixed tabOk (n := 222) (ns := [1, 3, 1, 1, 1, 1]) (tr := [.auto, .reg [], .dec true, .reg [(.row t_77 ((lcell ARat.cells) v))], .reg [.none, (.pv .nilI)], .reg [], .auto, .reg [.none, (.pv (vI deg))], .dec false, .reg [(iI (((t_77 + 1) : Nat) : Int))], .keep [75, 76, 77]]) (cj (dltN_t h1) (cj (o_at (lcell ARat.cells) (Eq.refl (((t_77 : Nat) : Int) : Int)) h2) (cj h3 (cj h4 (cj (dlt_f h5) (cj (bs_addN h6) True.intro)))))) (by kernel_rfl) hL
theorem l22 (l : ALaw) (t_77 : Nat) (v : List ARat) (che : Int) (h1 : t_77 < l.pieces.length) (h2 : l.pieces[t_77]? = some v) (h3 : Contract prg 61 [(polyPV v)] (.iface 57 (vI che))) : Loop2 l t_77 (.iface 57 (vI che)) :=
  L.done mixed tabOk (n := 207) (ns := [1, 3, 1]) (tr := [.auto, .reg [], .dec true, .reg [(.row t_77 ((lcell ARat.cells) v))], .reg [.none, (.pv (.iface 57 (vI che)))], .reg [], .auto, .reg []]) (cj (dltN_t h1) (cj (o_at (lcell ARat.cells) (Eq.refl (((t_77 : Nat) : Int) : Int)) h2) (cj h3 True.intro))) (by kernel_rfl)
theorem l23 (l : ALaw) (t_77 : Nat) (h1 : l.pieces.length ≤ t_77) : Loop2 l t_77 .nilI :=
  L.done mixed tabOk (n := 186) (ns := [1]) (tr := [.auto, .reg [], .dec false, .reg []]) (cj (dltN_f h1) True.intro) (by kernel_rfl)
end law_Check

namespace linkworkref52_Check
@[reducible] noncomputable def fn : Func := Tryz.f23
noncomputable def atK1 : List Itm := focus [0, 2, 0, 0, 2, 1, 2, 0, 0, 2, 1, 2, 0, 0, 2, 0, 0] [.code (bodyOf fn)]
def inv1 (i_3 : Nat) (l : ALaw) : St := ⟨[(1, (.ptr 1 0)), (3, (eI (i_3 : Int)))], [(1, (.lit [(.pv (polyPV l.breaks)), (.pv (lpv (lcell ARat.cells) l.pieces))]))]⟩
@[reducible] noncomputable def Loop1 (i_3 : Nat) (l : ALaw) (r : PV) : Prop := L prg fn atK1 (inv1 i_3 l) r
noncomputable def atK2 : List Itm := focus [0, 2, 0, 0, 2, 1, 2, 0, 0, 2, 1, 2, 0, 0, 2, 0, 0, 0, 0, 0, 2, 1, 2, 2, 2, 2, 0, 0, 2, 0, 0] [.code (bodyOf fn)]
def inv2 (i_5 : Nat) (l : ALaw) : St := ⟨[(1, (.ptr 1 0)), (5, (eI (i_5 : Int)))], [(1, (.lit [(.pv (polyPV l.breaks)), (.pv (lpv (lcell ARat.cells) l.pieces))]))]⟩
@[reducible] noncomputable def Loop2 (i_5 : Nat) (l : ALaw) (r : PV) : Prop := L prg fn atK2 (inv2 i_5 l) r
theorem e0 (l : ALaw) (h1 : l.breaks.length = 0) : Contract prg 23 [l.pv] (vI 10) :=
  Contract.ofL Tryz.func23 (by kernel_rfl) (L.done mixed tabOk (n := 84) (ns := [1, 1, 1, 1, 1, 1, 1, 1, 1]) (tr := [.reg [], .reg [.none, .none, (iI (l.breaks.length : Int)), .none, .none, .skip, .skip, .skip, .skip, .skip, .skip, .skip, (.dec true)], .auto, .reg []]) (cj (o_len ARat.cells l.breaks) (cj (deqN_t h1) (cj (deqN_t h1) (cj (deqN_t h1) (cj (deqN_t h1) (cj (deqN_t h1) (cj (deqN_t h1) (cj (deqN_t h1) (cj (deqN_t h1) True.intro))))))))) (by kernel_rfl))
theorem e1 (l : ALaw) (h1 : l.breaks.length ≠ 0) (h2 : l.breaks.length ≠ l.pieces.length) : Contract prg 23 [l.pv] (vI 10) :=
  Contract.ofL Tryz.func23 (by kernel_rfl) (L.done mixed tabOk (n := 84) (ns := [1, 1, 1, 1, 1, 1, 1, 1, 1, 1, 1, 1]) (tr := [.reg [], .reg [.none, .none, (iI (l.breaks.length : Int)), .none, .none, .none, .none, (iI (l.breaks.length : Int)), .none, .none, (iI (l.pieces.length : Int)), .none, (.dec false)], .dec true, .reg []]) (cj (o_len ARat.cells l.breaks) (cj (deqN_f h1) (cj (deqN_f h1) (cj (deqN_f h1) (cj (o_len ARat.cells l.breaks) (cj (deqN_f h1) (cj (deqN_f h1) (cj (deqN_f h1) (cj (o_len (lcell ARat.cells) l.pieces) (cj (deqN_f h1) (cj (deqN_f h1) (cj (dneN_t h2) True.intro)))))))))))) (by kernel_rfl))
theorem e2 (l : ALaw) (h1 : l.breaks.length ≠ 0) (h2 : l.breaks.length = l.pieces.length) (h3 : 16 < l.breaks.length) : Contract prg 23 [l.pv] (vI 4) :=
  Contract.ofL Tryz.func23 (by kernel_rfl) (L.done mixed tabOk (n := 99) (ns := [1, 1, 1, 1, 1, 1, 1, 1, 1, 1, 1, 1, 1, 1]) (tr := [.reg [], .reg [.none, .none, (iI (l.breaks.length : Int)), .none, .none, .none, .none, (iI (l.breaks.length : Int)), .none, .none, (iI (l.pieces.length : Int)), .none, (.dec false)], .dec false, .reg [.none, .none, (iI (l.breaks.length : Int))], .dec true, .reg []]) (cj (o_len ARat.cells l.breaks) (cj (deqN_f h1) (cj (deqN_f h1) (cj (deqN_f h1) (cj (o_len ARat.cells l.breaks) (cj (deqN_f h1) (cj (deqN_f h1) (cj (deqN_f h1) (cj (o_len (lcell ARat.cells) l.pieces) (cj (deqN_f h1) (cj (deqN_f h1) (cj (dneN_f h2) (cj (o_len ARat.cells l.breaks) (cj (dltN_t h3) True.intro)))))))))))))) (by kernel_rfl))
theorem e3 (l : ALaw) {r : PV} (h1 : l.breaks.length ≠ 0) (h2 : l.breaks.length = l.pieces.length) (h3 : l.breaks.length ≤ 16) (hL : Loop1 0 l r) : Contract prg 23 [l.pv] r :=
  Contract.ofL Tryz.func23 (by kernel_rfl) (L.go mixed tabOk (n := 111) (ns := [1, 1, 1, 1, 1, 1, 1, 1, 1, 1, 1, 1, 1, 1]) (tr := [.reg [], .reg [.none, .none, (iI (l.breaks.length : Int)), .none, .none, .none, .none, (iI (l.breaks.length : Int)), .none, .none, (iI (l.pieces.length : Int)), .none, (.dec false)], .dec false, .reg [.none, .none, (iI (l.breaks.length : Int))], .dec false, .reg [], .keep [1, 3]]) (cj (o_len ARat.cells l.breaks) (cj (deqN_f h1) (cj (deqN_f h1) (cj (deqN_f h1) (cj (o_len ARat.cells l.breaks) (cj (deqN_f h1) (cj (deqN_f h1) (cj (deqN_f h1) (cj (o_len (lcell ARat.cells) l.pieces) (cj (deqN_f h1) (cj (deqN_f h1) (cj (dneN_f h2) (cj (o_len ARat.cells l.breaks) (cj (dltN_f h3) True.intro)))))))))))))) (by kernel_rfl) hL)
theorem l10 (i_3 : Nat) (l : ALaw) (v : ARat) (val : Bool) (h1 : i_3 < l.breaks.length) (h2 : l.breaks[i_3]? = some v) (h3 : Contract prg 28 [v.pv] (vB val)) (h4 : val = false) : Loop1 i_3 l (vI 3) :=
  L.done mixed tabOk (n := 159) (ns := [1, 1, 3, 1, 1, 1, 1, 1, 1, 1, 1, 1]) (tr := [.auto, .reg [.none, .none, .none, (iI (l.breaks.length : Int))], .dec true, .reg [.none, .none, .none, (.row i_3 (ARat.cells v))], dr 14 0 [.none, (.pv (vB val)), .none, .none, .skip, .skip, .skip, (.dec true), .none, .skip, .skip, .skip, .skip], .auto, .reg []]) (cj (o_len ARat.cells l.breaks) (cj (dltN_t h1) (cj (o_at ARat.cells (Eq.refl (((i_3 : Nat) : Int) : Int)) h2) (cj h3 (cj (bnot_t h4) (cj (bnot_t h4) (cj (bnot_t h4) (cj (bnot_t h4) (cj (Eq.refl true) (cj (Eq.refl true) (cj (Eq.refl true) (cj (Eq.refl true) True.intro)))))))))))) (by kernel_rfl)
theorem l11 (i_3 : Nat) (l : ALaw) (v : ARat) (val : Bool) (sig : Int) (h1 : i_3 < l.breaks.length) (h2 : l.breaks[i_3]? = some v) (h3 : Contract prg 28 [v.pv] (vB val)) (h4 : val = true) (h5 : Contract prg 19 [v.pv] (vI sig)) (h6 : sig < 0) : Loop1 i_3 l (vI 3) :=
  L.done mixed tabOk (n := 159) (ns := [1, 1, 3, 1, 1, 1, 1, 1, 1, 1, 1, 1, 1, 1]) (tr := [.auto, .reg [.none, .none, .none, (iI (l.breaks.length : Int))], .dec true, .reg [.none, .none, .none, (.row i_3 (ARat.cells v))], dr 14 0 [.none, (.pv (vB val)), .none, .none, .none, (.pv (vI sig)), .none, (.dec false), .none, .skip, .skip, .skip, .skip, (.dec true)], .auto, .reg []]) (cj (o_len ARat.cells l.breaks) (cj (dltN_t h1) (cj (o_at ARat.cells (Eq.refl (((i_3 : Nat) : Int) : Int)) h2) (cj h3 (cj (bnot_f h4) (cj (bnot_f h4) (cj h5 (cj (bnot_f h4) (cj (bnot_f h4) (cj (dlt_t h6) (cj (dlt_t h6) (cj (dlt_t h6) (cj (dlt_t h6) (cj (dlt_t h6) True.intro)))))))))))))) (by kernel_rfl)
theorem l12 (i_3 : Nat) (l : ALaw) (v : ARat) (val : Bool) (sig : Int) (of : ARat) (cmp : Int) (h1 : i_3 < l.breaks.length) (h2 : l.breaks[i_3]? = some v) (h3 : Contract prg 28 [v.pv] (vB val)) (h4 : val = true) (h5 : Contract prg 19 [v.pv] (vI sig)) (h6 : 0 ≤ sig) (h7 : Contract prg 58 [(vI 1)] of.pv) (h8 : Contract prg 68 [v.pv, of.pv] (vI cmp)) (h9 : 0 ≤ cmp) : Loop1 i_3 l (vI 3) :=
  L.done mixed tabOk (n := 159) (ns := [1, 1, 3, 1, 1, 1, 1, 1, 1, 1, 1, 1, 1, 1, 1, 1, 1]) (tr := [.auto, .reg [.none, .none, .none, (iI (l.breaks.length : Int))], .dec true, .reg [.none, .none, .none, (.row i_3 (ARat.cells v))], dr 14 0 [.none, (.pv (vB val)), .none, .none, .none, (.pv (vI sig)), .none, (.dec false), .none, .none, (.pv of.pv), (.pv (vI cmp)), .none, (.dec false)], .dec true, .reg []]) (cj (o_len ARat.cells l.breaks) (cj (dltN_t h1) (cj (o_at ARat.cells (Eq.refl (((i_3 : Nat) : Int) : Int)) h2) (cj h3 (cj (bnot_f h4) (cj (bnot_f h4) (cj h5 (cj (bnot_f h4) (cj (bnot_f h4) (cj (dlt_f h6) (cj (dlt_f h6) (cj h7 (cj (dlt_f h6) (cj h8 (cj (dlt_f h6) (cj (dlt_f h6) (cj (dle_t h9) True.intro))))))))))))))))) (by kernel_rfl)
theorem l13 (i_3 : Nat) (l : ALaw) (v : ARat) (val : Bool) (sig : Int) (of : ARat) (cmp sig1 : Int) (h1 : i_3 < l.breaks.length) (h2 : l.breaks[i_3]? = some v) (h3 : Contract prg 28 [v.pv] (vB val)) (h4 : val = true) (h5 : Contract prg 19 [v.pv] (vI sig)) (h6 : 0 ≤ sig) (h7 : Contract prg 58 [(vI 1)] of.pv) (h8 : Contract prg 68 [v.pv, of.pv] (vI cmp)) (h9 : cmp < 0) (h10 : i_3 = 0) (h11 : Contract prg 19 [v.pv] (vI sig1)) (h12 : sig1 ≠ 0) : Loop1 i_3 l (vI 12) :=
  L.done mixed tabOk (n := 171) (ns := [1, 1, 3, 1, 1, 1, 1, 1, 1, 1, 1, 1, 1, 1, 1, 1, 1, 1, 1, 1, 1, 1, 1, 1, 1, 1, 1]) (tr := [.auto, .reg [.none, .none, .none, (iI (l.breaks.length : Int))], .dec true, .reg [.none, .none, .none, (.row i_3 (ARat.cells v))], dr 14 0 [.none, (.pv (vB val)), .none, .none, .none, (.pv (vI sig)), .none, (.dec false), .none, .none, (.pv of.pv), (.pv (vI cmp)), .none, (.dec false)], .dec false, dr 22 0 [.none, .none, .none, .none, (.pv (vI sig1)), .none, (.dec true), .none, .skip, .skip, .skip, .skip, .skip, .skip, .skip, .skip, .skip, .skip, .skip, .skip, .skip, (.dec true)], .auto, .reg []]) (cj (o_len ARat.cells l.breaks) (cj (dltN_t h1) (cj (o_at ARat.cells (Eq.refl (((i_3 : Nat) : Int) : Int)) h2) (cj h3 (cj (bnot_f h4) (cj (bnot_f h4) (cj h5 (cj (bnot_f h4) (cj (bnot_f h4) (cj (dlt_f h6) (cj (dlt_f h6) (cj h7 (cj (dlt_f h6) (cj h8 (cj (dlt_f h6) (cj (dlt_f h6) (cj (dle_f h9) (cj (deqN_t h10) (cj (deqN_t h10) (cj h11 (cj (deqN_t h10) (cj (deqN_t h10) (cj (dne_t h12) (cj (dne_t h12) (cj (dne_t h12) (cj (dne_t h12) (cj (dne_t h12) True.intro))))))))))))))))))))))))))) (by kernel_rfl)
theorem l14 (i_3 : Nat) (l : ALaw) (v : ARat) (val : Bool) (sig : Int) (of : ARat) (cmp sig1 : Int) (k : Nat) (v1 : ARat) (cmp1 : Int) (h1 : i_3 < l.breaks.length) (h2 : l.breaks[i_3]? = some v) (h3 : Contract prg 28 [v.pv] (vB val)) (h4 : val = true) (h5 : Contract prg 19 [v.pv] (vI sig)) (h6 : 0 ≤ sig) (h7 : Contract prg 58 [(vI 1)] of.pv) (h8 : Contract prg 68 [v.pv, of.pv] (vI cmp)) (h9 : cmp < 0) (h10 : i_3 = 0) (h11 : Contract prg 19 [v.pv] (vI sig1)) (h12 : sig1 = 0) (h13 : 0 < i_3) (h14 : InI64 ((i_3 : Int) - 1)) (h15 : ((i_3 : Int) - 1) = (k : Int)) (h16 : l.breaks[k]? = some v1) (h17 : Contract prg 68 [v.pv, v1.pv] (vI cmp1)) (h18 : cmp1 ≤ 0) : Loop1 i_3 l (vI 12) :=
  L.done mixed tabOk (n := 171) (ns := [1, 1, 3, 1, 1, 1, 1, 1, 1, 1, 1, 1, 1, 1, 1, 1, 1, 1, 1, 1, 1, 1, 1, 1, 1, 1, 1, 1, 1, 1, 1, 1, 3, 1, 1, 1, 1, 1, 1, 1, 1]) (tr := [.auto, .reg [.none, .none, .none, (iI (l.breaks.length : Int))], .dec true, .reg [.none, .none, .none, (.row i_3 (ARat.cells v))], dr 14 0 [.none, (.pv (vB val)), .none, .none, .none, (.pv (vI sig)), .none, (.dec false), .none, .none, (.pv of.pv), (.pv (vI cmp)), .none, (.dec false)], .dec false, dr 22 0 [.none, .none, .none, .none, (.pv (vI sig1)), .none, (.dec true), .none, .none, .none, .none, .none, .none, .none, .none, (iI ((i_3 : Int) - 1)), (.row k (ARat.cells v1)), .none, (.pv (vI cmp1)), .none, (.dec true), (.dec false)], .dec true, .reg []]) (cj (o_len ARat.cells l.breaks) (cj (dltN_t h1) (cj (o_at ARat.cells (Eq.refl (((i_3 : Nat) : Int) : Int)) h2) (cj h3 (cj (bnot_f h4) (cj (bnot_f h4) (cj h5 (cj (bnot_f h4) (cj (bnot_f h4) (cj (dlt_f h6) (cj (dlt_f h6) (cj h7 (cj (dlt_f h6) (cj h8 (cj (dlt_f h6) (cj (dlt_f h6) (cj (dle_f h9) (cj (deqN_t h10) (cj (deqN_t h10) (cj h11 (cj (deqN_t h10) (cj (deqN_t h10) (cj (dne_f h12) (cj (dne_f h12) (cj (dne_f h12) (cj (dltN_t h13) (cj (dltN_t h13) (cj (dltN_t h13) (cj (dltN_t h13) (cj (dltN_t h13) (cj (bs_sub h14) (cj (dltN_t h13) (cj (o_at ARat.cells h15 h16) (cj (dltN_t h13) (cj (dltN_t h13) (cj h17 (cj (dltN_t h13) (cj (dne_f h12) (cj (dltN_t h13) (cj (dne_f h12) (cj (dle_t h18) True.intro))))))))))))))))))))))))))))))))))))))))) (by kernel_rfl)
theorem l15 (i_3 : Nat) (l : ALaw) (v : ARat) (val : Bool) (sig : Int) (of : ARat) (cmp sig1 : Int) (k : Nat) (v1 : ARat) (cmp1 : Int) {r : PV} (h1 : i_3 < l.breaks.length) (h2 : l.breaks[i_3]? = some v) (h3 : Contract prg 28 [v.pv] (vB val)) (h4 : val = true) (h5 : Contract prg 19 [v.pv] (vI sig)) (h6 : 0 ≤ sig) (h7 : Contract prg 58 [(vI 1)] of.pv) (h8 : Contract prg 68 [v.pv, of.pv] (vI cmp)) (h9 : cmp < 0) (h10 : i_3 = 0) (h11 : Contract prg 19 [v.pv] (vI sig1)) (h12 : sig1 = 0) (h13 : 0 < i_3) (h14 : InI64 ((i_3 : Int) - 1)) (h15 : ((i_3 : Int) - 1) = (k : Int)) (h16 : l.breaks[k]? = some v1) (h17 : Contract prg 68 [v.pv, v1.pv] (vI cmp1)) (h18 : 0 < cmp1) (h19 : (i_3 + 1) < 9223372036854775808) (hL : Loop1 (i_3 + 1) l r) : Loop1 i_3 l r :=
  L.go mixed tabOk (n := 174) (ns := [1, 1, 3, 1, 1, 1, 1, 1, 1, 1, 1, 1, 1, 1, 1, 1, 1, 1, 1, 1, 1, 1, 1, 1, 1, 1, 1, 1, 1, 1, 1, 1, 3, 1, 1, 1, 1, 1, 1, 1, 1, 1]) (tr := [.auto, .reg [.none, .none, .none, (iI (l.breaks.length : Int))], .dec true, .reg [.none, .none, .none, (.row i_3 (ARat.cells v))], dr 14 0 [.none, (.pv (vB val)), .none, .none, .none, (.pv (vI sig)), .none, (.dec false), .none, .none, (.pv of.pv), (.pv (vI cmp)), .none, (.dec false)], .dec false, dr 22 0 [.none, .none, .none, .none, (.pv (vI sig1)), .none, (.dec true), .none, .none, .none, .none, .none, .none, .none, .none, (iI ((i_3 : Int) - 1)), (.row k (ARat.cells v1)), .none, (.pv (vI cmp1)), .none, (.dec true), (.dec false)], .dec false, .reg [.none, (iI (((i_3 + 1) : Nat) : Int))], .keep [1, 3], .drop [4]]) (cj (o_len ARat.cells l.breaks) (cj (dltN_t h1) (cj (o_at ARat.cells (Eq.refl (((i_3 : Nat) : Int) : Int)) h2) (cj h3 (cj (bnot_f h4) (cj (bnot_f h4) (cj h5 (cj (bnot_f h4) (cj (bnot_f h4) (cj (dlt_f h6) (cj (dlt_f h6) (cj h7 (cj (dlt_f h6) (cj h8 (cj (dlt_f h6) (cj (dlt_f h6) (cj (dle_f h9) (cj (deqN_t h10) (cj (deqN_t h10) (cj h11 (cj (deqN_t h10) (cj (deqN_t h10) (cj (dne_f h12) (cj (dne_f h12) (cj (dne_f h12) (cj (dltN_t h13) (cj (dltN_t h13) (cj (dltN_t h13) (cj (dltN_t h13) (cj (dltN_t h13) (cj (bs_sub h14) (cj (dltN_t h13) (cj (o_at ARat.cells h15 h16) (cj (dltN_t h13) (cj (dltN_t h13) (cj h17 (cj (dltN_t h13) (cj (dne_f h12) (cj (dltN_t h13) (cj (dne_f h12) (cj (dle_f h18) (cj (bs_addN h19) True.intro)))))))))))))))))))))))))))))))))))))))))) (by kernel_rfl) hL
theorem l16 (i_3 : Nat) (l : ALaw) (v : ARat) (val : Bool) (sig : Int) (of : ARat) (cmp sig1 : Int) {r : PV} (h1 : i_3 < l.breaks.length) (h2 : l.breaks[i_3]? = some v) (h3 : Contract prg 28 [v.pv] (vB val)) (h4 : val = true) (h5 : Contract prg 19 [v.pv] (vI sig)) (h6 : 0 ≤ sig) (h7 : Contract prg 58 [(vI 1)] of.pv) (h8 : Contract prg 68 [v.pv, of.pv] (vI cmp)) (h9 : cmp < 0) (h10 : i_3 = 0) (h11 : Contract prg 19 [v.pv] (vI sig1)) (h12 : sig1 = 0) (h13 : i_3 ≤ 0) (h14 : (i_3 + 1) < 9223372036854775808) (hL : Loop1 (i_3 + 1) l r) : Loop1 i_3 l r :=
  L.go mixed tabOk (n := 174) (ns := [1, 1, 3, 1, 1, 1, 1, 1, 1, 1, 1, 1, 1, 1, 1, 1, 1, 1, 1, 1, 1, 1, 1, 1, 1, 1, 1, 1, 1, 1, 1, 1, 1, 1, 1, 1, 1, 1]) (tr := [.auto, .reg [.none, .none, .none, (iI (l.breaks.length : Int))], .dec true, .reg [.none, .none, .none, (.row i_3 (ARat.cells v))], dr 14 0 [.none, (.pv (vB val)), .none, .none, .none, (.pv (vI sig)), .none, (.dec false), .none, .none, (.pv of.pv), (.pv (vI cmp)), .none, (.dec false)], .dec false, dr 22 0 [.none, .none, .none, .none, (.pv (vI sig1)), .none, (.dec true), .none, .none, .none, .none, .skip, .skip, .skip, .skip, .skip, .skip, .skip, .skip, .skip, (.dec false), (.dec false)], .auto, .reg [.none, (iI (((i_3 + 1) : Nat) : Int))], .keep [1, 3], .drop [4]]) (cj (o_len ARat.cells l.breaks) (cj (dltN_t h1) (cj (o_at ARat.cells (Eq.refl (((i_3 : Nat) : Int) : Int)) h2) (cj h3 (cj (bnot_f h4) (cj (bnot_f h4) (cj h5 (cj (bnot_f h4) (cj (bnot_f h4) (cj (dlt_f h6) (cj (dlt_f h6) (cj h7 (cj (dlt_f h6) (cj h8 (cj (dlt_f h6) (cj (dlt_f h6) (cj (dle_f h9) (cj (deqN_t h10) (cj (deqN_t h10) (cj h11 (cj (deqN_t h10) (cj (deqN_t h10) (cj (dne_f h12) (cj (dne_f h12) (cj (dne_f h12) (cj (dltN_f h13) (cj (dltN_f h13) (cj (dltN_f h13) (cj (dltN_f h13) (cj (dltN_f h13) (cj (dltN_f h13) (cj (dltN_f h13) (cj (dltN_f h13) (cj (dltN_f h13) (cj (dne_f h12) (cj (dltN_f h13) (cj (dne_f h12) (cj (bs_addN h14) True.intro)))))))))))))))))))))))))))))))))))))) (by kernel_rfl) hL
theorem l17 (i_3 : Nat) (l : ALaw) (v : ARat) (val : Bool) (sig : Int) (of : ARat) (cmp : Int) (k : Nat) (v1 : ARat) (cmp1 : Int) (h1 : i_3 < l.breaks.length) (h2 : l.breaks[i_3]? = some v) (h3 : Contract prg 28 [v.pv] (vB val)) (h4 : val = true) (h5 : Contract prg 19 [v.pv] (vI sig)) (h6 : 0 ≤ sig) (h7 : Contract prg 58 [(vI 1)] of.pv) (h8 : Contract prg 68 [v.pv, of.pv] (vI cmp)) (h9 : cmp < 0) (h10 : i_3 ≠ 0) (h11 : 0 < i_3) (h12 : InI64 ((i_3 : Int) - 1)) (h13 : ((i_3 : Int) - 1) = (k : Int)) (h14 : l.breaks[k]? = some v1) (h15 : Contract prg 68 [v.pv, v1.pv] (vI cmp1)) (h16 : cmp1 ≤ 0) : Loop1 i_3 l (vI 12) :=
  L.done mixed tabOk (n := 171) (ns := [1, 1, 3, 1, 1, 1, 1, 1, 1, 1, 1, 1, 1, 1, 1, 1, 1, 1, 1, 1, 1, 1, 1, 1, 1, 1, 1, 1, 1, 1, 1, 3, 1, 1, 1, 1, 1, 1, 1]) (tr := [.auto, .reg [.none, .none, .none, (iI (l.breaks.length : Int))], .dec true, .reg [.none, .none, .none, (.row i_3 (ARat.cells v))], dr 14 0 [.none, (.pv (vB val)), .none, .none, .none, (.pv (vI sig)), .none, (.dec false), .none, .none, (.pv of.pv), (.pv (vI cmp)), .none, (.dec false)], .dec false, dr 22 0 [.none, .none, .none, .skip, .skip, .skip, (.dec false), .none, .none, .none, .none, .none, .none, .none, .none, (iI ((i_3 : Int) - 1)), (.row k (ARat.cells v1)), .none, (.pv (vI cmp1)), .none, (.dec true)], .dec true, .reg []]) (cj (o_len ARat.cells l.breaks) (cj (dltN_t h1) (cj (o_at ARat.cells (Eq.refl (((i_3 : Nat) : Int) : Int)) h2) (cj h3 (cj (bnot_f h4) (cj (bnot_f h4) (cj h5 (cj (bnot_f h4) (cj (bnot_f h4) (cj (dlt_f h6) (cj (dlt_f h6) (cj h7 (cj (dlt_f h6) (cj h8 (cj (dlt_f h6) (cj (dlt_f h6) (cj (dle_f h9) (cj (deqN_f h10) (cj (deqN_f h10) (cj (deqN_f h10) (cj (deqN_f h10) (cj (Eq.refl false) (cj (Eq.refl false) (cj (Eq.refl false) (cj (dltN_t h11) (cj (dltN_t h11) (cj (dltN_t h11) (cj (dltN_t h11) (cj (dltN_t h11) (cj (bs_sub h12) (cj (dltN_t h11) (cj (o_at ARat.cells h13 h14) (cj (dltN_t h11) (cj (dltN_t h11) (cj h15 (cj (dltN_t h11) (cj (Eq.refl false) (cj (dltN_t h11) (cj (dle_t h16) True.intro))))))))))))))))))))))))))))))))))))))) (by kernel_rfl)
theorem l18 (i_3 : Nat) (l : ALaw) (v : ARat) (val : Bool) (sig : Int) (of : ARat) (cmp : Int) (k : Nat) (v1 : ARat) (cmp1 : Int) {r : PV} (h1 : i_3 < l.breaks.length) (h2 : l.breaks[i_3]? = some v) (h3 : Contract prg 28 [v.pv] (vB val)) (h4 : val = true) (h5 : Contract prg 19 [v.pv] (vI sig)) (h6 : 0 ≤ sig) (h7 : Contract prg 58 [(vI 1)] of.pv) (h8 : Contract prg 68 [v.pv, of.pv] (vI cmp)) (h9 : cmp < 0) (h10 : i_3 ≠ 0) (h11 : 0 < i_3) (h12 : InI64 ((i_3 : Int) - 1)) (h13 : ((i_3 : Int) - 1) = (k : Int)) (h14 : l.breaks[k]? = some v1) (h15 : Contract prg 68 [v.pv, v1.pv] (vI cmp1)) (h16 : 0 < cmp1) (h17 : (i_3 + 1) < 9223372036854775808) (hL : Loop1 (i_3 + 1) l r) : Loop1 i_3 l r :=
  L.go mixed tabOk (n := 174) (ns := [1, 1, 3, 1, 1, 1, 1, 1, 1, 1, 1, 1, 1, 1, 1, 1, 1, 1, 1, 1, 1, 1, 1, 1, 1, 1, 1, 1, 1, 1, 1, 3, 1, 1, 1, 1, 1, 1, 1, 1]) (tr := [.auto, .reg [.none, .none, .none, (iI (l.breaks.length : Int))], .dec true, .reg [.none, .none, .none, (.row i_3 (ARat.cells v))], dr 14 0 [.none, (.pv (vB val)), .none, .none, .none, (.pv (vI sig)), .none, (.dec false), .none, .none, (.pv of.pv), (.pv (vI cmp)), .none, (.dec false)], .dec false, dr 22 0 [.none, .none, .none, .skip, .skip, .skip, (.dec false), .none, .none, .none, .none, .none, .none, .none, .none, (iI ((i_3 : Int) - 1)), (.row k (ARat.cells v1)), .none, (.pv (vI cmp1)), .none, (.dec true)], .dec false, .reg [.none, (iI (((i_3 + 1) : Nat) : Int))], .keep [1, 3], .drop [4]]) (cj (o_len ARat.cells l.breaks) (cj (dltN_t h1) (cj (o_at ARat.cells (Eq.refl (((i_3 : Nat) : Int) : Int)) h2) (cj h3 (cj (bnot_f h4) (cj (bnot_f h4) (cj h5 (cj (bnot_f h4) (cj (bnot_f h4) (cj (dlt_f h6) (cj (dlt_f h6) (cj h7 (cj (dlt_f h6) (cj h8 (cj (dlt_f h6) (cj (dlt_f h6) (cj (dle_f h9) (cj (deqN_f h10) (cj (deqN_f h10) (cj (deqN_f h10) (cj (deqN_f h10) (cj (Eq.refl false) (cj (Eq.refl false) (cj (Eq.refl false) (cj (dltN_t h11) (cj (dltN_t h11) (cj (dltN_t h11) (cj (dltN_t h11) (cj (dltN_t h11) (cj (bs_sub h12) (cj (dltN_t h11) (cj (o_at ARat.cells h13 h14) (cj (dltN_t h11) (cj (dltN_t h11) (cj h15 (cj (dltN_t h11) (cj (Eq.refl false) (cj (dltN_t h11) (cj (dle_f h16) (cj (bs_addN h17) True.intro)))))))))))))))))))))))))))))))))))))))) (by kernel_rfl) hL
theorem l19 (i_3 : Nat) (l : ALaw) (v : ARat) (val : Bool) (sig : Int) (of : ARat) (cmp : Int) {r : PV} (h1 : i_3 < l.breaks.length) (h2 : l.breaks[i_3]? = some v) (h3 : Contract prg 28 [v.pv] (vB val)) (h4 : val = true) (h5 : Contract prg 19 [v.pv] (vI sig)) (h6 : 0 ≤ sig) (h7 : Contract prg 58 [(vI 1)] of.pv) (h8 : Contract prg 68 [v.pv, of.pv] (vI cmp)) (h9 : cmp < 0) (h10 : i_3 ≠ 0) (h11 : i_3 ≤ 0) (h12 : (i_3 + 1) < 9223372036854775808) (hL : Loop1 (i_3 + 1) l r) : Loop1 i_3 l r :=
  L.go mixed tabOk (n := 174) (ns := [1, 1, 3, 1, 1, 1, 1, 1, 1, 1, 1, 1, 1, 1, 1, 1, 1, 1, 1, 1, 1, 1, 1, 1, 1, 1, 1, 1, 1, 1, 1, 1, 1, 1, 1, 1]) (tr := [.auto, .reg [.none, .none, .none, (iI (l.breaks.length : Int))], .dec true, .reg [.none, .none, .none, (.row i_3 (ARat.cells v))], dr 14 0 [.none, (.pv (vB val)), .none, .none, .none, (.pv (vI sig)), .none, (.dec false), .none, .none, (.pv of.pv), (.pv (vI cmp)), .none, (.dec false)], .dec false, dr 22 0 [.none, .none, .none, .skip, .skip, .skip, (.dec false), .none, .none, .none, .none, .skip, .skip, .skip, .skip, .skip, .skip, .skip, .skip, .skip, (.dec false)], .auto, .reg [.none, (iI (((i_3 + 1) : Nat) : Int))], .keep [1, 3], .drop [4]]) (cj (o_len ARat.cells l.breaks) (cj (dltN_t h1) (cj (o_at ARat.cells (Eq.refl (((i_3 : Nat) : Int) : Int)) h2) (cj h3 (cj (bnot_f h4) (cj (bnot_f h4) (cj h5 (cj (bnot_f h4) (cj (bnot_f h4) (cj (dlt_f h6) (cj (dlt_f h6) (cj h7 (cj (dlt_f h6) (cj h8 (cj (dlt_f h6) (cj (dlt_f h6) (cj (dle_f h9) (cj (deqN_f h10) (cj (deqN_f h10) (cj (deqN_f h10) (cj (deqN_f h10) (cj (Eq.refl false) (cj (Eq.refl false) (cj (Eq.refl false) (cj (dltN_f h11) (cj (dltN_f h11) (cj (dltN_f h11) (cj (dltN_f h11) (cj (dltN_f h11) (cj (dltN_f h11) (cj (dltN_f h11) (cj (dltN_f h11) (cj (dltN_f h11) (cj (Eq.refl false) (cj (dltN_f h11) (cj (bs_addN h12) True.intro)))))))))))))))))))))))))))))))))))) (by kernel_rfl) hL
theorem l110 (i_3 : Nat) (l : ALaw) {r : PV} (h1 : l.breaks.length ≤ i_3) (hL : Loop2 0 l r) : Loop1 i_3 l r :=
  L.go mixed tabOk (n := 153) (ns := [1, 1]) (tr := [.auto, .reg [.none, .none, .none, (iI (l.breaks.length : Int))], .dec false, .reg [], .keep [1, 5]]) (cj (o_len ARat.cells l.breaks) (cj (dltN_f h1) True.intro)) (by kernel_rfl) hL
theorem l20 (i_5 : Nat) (l : ALaw) (v : List ARat) (che : Int) (h1 : i_5 < l.pieces.length) (h2 : l.pieces[i_5]? = some v) (h3 : Contract prg 69 [(polyPV v)] (vI che)) (h4 : che ≠ 0) : Loop2 i_5 l (vI che) :=
  L.done mixed tabOk (n := 201) (ns := [1, 1, 3, 1, 1]) (tr := [.auto, .reg [.none, .none, .none, (iI (l.pieces.length : Int))], .dec true, .reg [.none, .none, .none, (.row i_5 ((lcell ARat.cells) v)), .none, (.pv (vI che))], .reg [], .dec true, .reg []]) (cj (o_len (lcell ARat.cells) l.pieces) (cj (dltN_t h1) (cj (o_at (lcell ARat.cells) (Eq.refl (((i_5 : Nat) : Int) : Int)) h2) (cj h3 (cj (dne_t h4) True.intro))))) (by kernel_rfl)
theorem l21 (i_5 : Nat) (l : ALaw) (v : List ARat) (che : Int) (h1 : i_5 < l.pieces.length) (h2 : l.pieces[i_5]? = some v) (h3 : Contract prg 69 [(polyPV v)] (vI che)) (h4 : che = 0) (h5 : 9 < v.length) : Loop2 i_5 l (vI 4) :=
  L.done mixed tabOk (n := 213) (ns := [1, 1, 3, 1, 1, 3, 1, 1]) (tr := [.auto, .reg [.none, .none, .none, (iI (l.pieces.length : Int))], .dec true, .reg [.none, .none, .none, (.row i_5 ((lcell ARat.cells) v)), .none, (.pv (vI che))], .reg [], .dec false, .reg [.none, .none, .none, (.row i_5 ((lcell ARat.cells) v)), .none, (iI (v.length : Int))], .dec true, .reg []]) (cj (o_len (lcell ARat.cells) l.pieces) (cj (dltN_t h1) (cj (o_at (lcell ARat.cells) (Eq.refl (((i_5 : Nat) : Int) : Int)) h2) (cj h3 (cj (dne_f h4) (cj (o_at (lcell ARat.cells) (Eq.refl (((i_5 : Nat) : Int) : Int)) h2) (cj (o_len ARat.cells v) (cj (dltN_t h5) True.intro)))))))) (by kernel_rfl)
theorem l22 (i_5 : Nat) (l : ALaw) (v : List ARat) (che : Int) {r : PV} (h1 : i_5 < l.pieces.length) (h2 : l.pieces[i_5]? = some v) (h3 : Contract prg 69 [(polyPV v)] (vI che)) (h4 : che = 0) (h5 : v.length ≤ 9) (h6 : (i_5 + 1) < 9223372036854775808) (hL : Loop2 (i_5 + 1) l r) : Loop2 i_5 l r :=
  L.go mixed tabOk (n := 216) (ns := [1, 1, 3, 1, 1, 3, 1, 1, 1]) (tr := [.auto, .reg [.none, .none, .none, (iI (l.pieces.length : Int))], .dec true, .reg [.none, .none, .none, (.row i_5 ((lcell ARat.cells) v)), .none, (.pv (vI che))], .reg [], .dec false, .reg [.none, .none, .none, (.row i_5 ((lcell ARat.cells) v)), .none, (iI (v.length : Int))], .dec false, .reg [.none, (iI (((i_5 + 1) : Nat) : Int))], .keep [1, 5]]) (cj (o_len (lcell ARat.cells) l.pieces) (cj (dltN_t h1) (cj (o_at (lcell ARat.cells) (Eq.refl (((i_5 : Nat) : Int) : Int)) h2) (cj h3 (cj (dne_f h4) (cj (o_at (lcell ARat.cells) (Eq.refl (((i_5 : Nat) : Int) : Int)) h2) (cj (o_len ARat.cells v) (cj (dltN_f h5) (cj (bs_addN h6) True.intro))))))))) (by kernel_rfl) hL
theorem l23 (i_5 : Nat) (l : ALaw) (h1 : l.pieces.length ≤ i_5) : Loop2 i_5 l (vI 0) :=
  L.done mixed tabOk (n := 186) (ns := [1, 1]) (tr := [.auto, .reg [.none, .none, .none, (iI (l.pieces.length : Int))], .dec false, .reg []]) (cj (o_len (lcell ARat.cells) l.pieces) (cj (dltN_f h1) True.intro)) (by kernel_rfl)
end linkworkref52_Check

namespace linkworkref52_Frac
@[reducible] noncomputable def fn : Func := Tryz.f37
theorem e0 (x : ARat) (flo of : AWhole) (fro : ARat) (fro1 : Int) (sub : ARat) (h1 : Contract prg 91 [x.pv] flo.pv) (h2 : Contract prg 92 [(vI 1)] of.pv) (h3 : Contract prg 90 [flo.pv, of.pv] (.tup [fro.pv, (vI fro1)])) (h4 : Contract prg 56 [x.pv, fro.pv] sub.pv) : Contract prg 37 [x.pv] sub.pv :=
  Contract.ofL Tryz.func37 (by kernel_rfl) (L.done mixed tabOk (n := 78) (ns := [1, 1, 1, 1]) (tr := [.reg [], .reg [.none, (.pv flo.pv), (.pv of.pv), (.pv (.tup [fro.pv, (vI fro1)]))], .reg [.none, .none, (.pv sub.pv)]]) (cj h1 (cj h2 (cj h3 (cj h4 True.intro)))) (by kernel_rfl))
end linkworkref52_Frac

namespace linkworkref52_Piece
@[reducible] noncomputable def fn : Func := Tryz.f76
noncomputable def atK1 : List Itm := focus [0, 2, 0, 2, 0, 0, 0] [.code (bodyOf fn)]
def inv1 (i_5 : Nat) (l : ALaw) (x : ARat) : St := ⟨[(2, (.ptr 2 0)), (3, (.ptr 3 0)), (5, (eI (i_5 : Int)))], [(2, (.lit [(.pv (polyPV l.breaks)), (.pv (lpv (lcell ARat.cells) l.pieces))])), (3, (.lit [(eB x.neg), (.pv (wordsPV x.num)), (.pv (wordsPV x.den))]))]⟩
@[reducible] noncomputable def Loop1 (i_5 : Nat) (l : ALaw) (x : ARat) (r : PV) : Prop := L prg fn atK1 (inv1 i_5 l x) r
theorem e0 (l : ALaw) (x : ARat) {r : PV}  (hL : Loop1 0 l x r) : Contract prg 76 [l.pv, x.pv] r :=
  Contract.ofL Tryz.func76 (by kernel_rfl) (L.go mixed tabOk (n := 81) (ns := []) (tr := [.reg [], .reg [], .keep [2, 3, 5], .ord [2, 3]]) True.intro (by kernel_rfl) hL)
theorem l10 (i_5 : Nat) (l : ALaw) (x v : ARat) (cmp : Int) {r : PV} (h1 : (i_5 + 1) < 9223372036854775808) (h2 : (i_5 + 1) < l.breaks.length) (h3 : l.breaks[(i_5 + 1)]? = some v) (h4 : Contract prg 68 [v.pv, x.pv] (vI cmp)) (h5 : cmp ≤ 0) (hL : Loop1 (i_5 + 1) l x r) : Loop1 i_5 l x r :=
  L.go mixed tabOk (n := 108) (ns := [1, 1, 1, 1, 1, 1, 1, 1, 3, 1, 1, 1, 1, 1, 1, 1, 1]) (tr := [.auto, dr 17 0 [.none, (iI (((i_5 + 1) : Nat) : Int)), .none, .none, (iI (l.breaks.length : Int)), .none, .none, .none, .none, .none, (iI (((i_5 + 1) : Nat) : Int)), (.row (i_5 + 1) (ARat.cells v)), .none, .none, (.pv (vI cmp)), .none, (.dec true)], .dec true, .reg [.none, (iI (((i_5 + 1) : Nat) : Int))], .keep [2, 3, 5]]) (cj (bs_addN h1) (cj (o_len ARat.cells l.breaks) (cj (dltN_t h2) (cj (dltN_t h2) (cj (dltN_t h2) (cj (dltN_t h2) (cj (bs_addN h1) (cj (dltN_t h2) (cj (o_at ARat.cells (Eq.refl ((((i_5 + 1) : Nat) : Int) : Int)) h3) (cj (dltN_t h2) (cj (dltN_t h2) (cj (dltN_t h2) (cj h4 (cj (dltN_t h2) (cj (dltN_t h2) (cj (dle_t h5) (cj (bs_addN h1) True.intro))))))))))))))))) (by kernel_rfl) hL
theorem l11 (i_5 : Nat) (l : ALaw) (x v : ARat) (cmp : Int) (h1 : (i_5 + 1) < 9223372036854775808) (h2 : (i_5 + 1) < l.breaks.length) (h3 : l.breaks[(i_5 + 1)]? = some v) (h4 : Contract prg 68 [v.pv, x.pv] (vI cmp)) (h5 : 0 < cmp) : Loop1 i_5 l x (vI (i_5 : Int)) :=
  L.done mixed tabOk (n := 114) (ns := [1, 1, 1, 1, 1, 1, 1, 1, 3, 1, 1, 1, 1, 1, 1, 1]) (tr := [.auto, dr 17 0 [.none, (iI (((i_5 + 1) : Nat) : Int)), .none, .none, (iI (l.breaks.length : Int)), .none, .none, .none, .none, .none, (iI (((i_5 + 1) : Nat) : Int)), (.row (i_5 + 1) (ARat.cells v)), .none, .none, (.pv (vI cmp)), .none, (.dec true)], .dec false, .reg []]) (cj (bs_addN h1) (cj (o_len ARat.cells l.breaks) (cj (dltN_t h2) (cj (dltN_t h2) (cj (dltN_t h2) (cj (dltN_t h2) (cj (bs_addN h1) (cj (dltN_t h2) (cj (o_at ARat.cells (Eq.refl ((((i_5 + 1) : Nat) : Int) : Int)) h3) (cj (dltN_t h2) (cj (dltN_t h2) (cj (dltN_t h2) (cj h4 (cj (dltN_t h2) (cj (dltN_t h2) (cj (dle_f h5) True.intro)))))))))))))))) (by kernel_rfl)
theorem l12 (i_5 : Nat) (l : ALaw) (x : ARat) (h1 : (i_5 + 1) < 9223372036854775808) (h2 : l.breaks.length ≤ (i_5 + 1)) : Loop1 i_5 l x (vI (i_5 : Int)) :=
  L.done mixed tabOk (n := 114) (ns := [1, 1, 1, 1, 1, 1, 1, 1, 1, 1, 1, 1]) (tr := [.auto, dr 17 0 [.none, (iI (((i_5 + 1) : Nat) : Int)), .none, .none, (iI (l.breaks.length : Int)), .none, .none, .skip, .skip, .skip, .skip, .skip, .skip, .skip, .skip, .skip, (.dec false)], .auto, .reg []]) (cj (bs_addN h1) (cj (o_len ARat.cells l.breaks) (cj (dltN_f h2) (cj (dltN_f h2) (cj (dltN_f h2) (cj (dltN_f h2) (cj (dltN_f h2) (cj (dltN_f h2) (cj (dltN_f h2) (cj (dltN_f h2) (cj (dltN_f h2) (cj (dltN_f h2) True.intro)))))))))))) (by kernel_rfl)
end linkworkref52_Piece

namespace linkworkref52_At
@[reducible] noncomputable def fn : Func := Tryz.f30
theorem e0 (l : ALaw) (x fra : ARat) (pie : Int) (k : Nat) (v : List ARat) (k1 : Nat) (v1 sub atV : ARat) (h1 : Contract prg 37 [x.pv] fra.pv) (h2 : Contract prg 76 [l.pv, fra.pv] (vI pie)) (h3 : pie = (k : Int)) (h4 : l.pieces[k]? = some v) (h5 : pie = (k1 : Int)) (h6 : l.breaks[k1]? = some v1) (h7 : Contract prg 56 [fra.pv, v1.pv] sub.pv) (h8 : Contract prg 77 [(polyPV v), sub.pv] atV.pv) : Contract prg 30 [l.pv, x.pv] atV.pv :=
  Contract.ofL Tryz.func30 (by kernel_rfl) (L.done mixed tabOk (n := 84) (ns := [1, 1, 3, 3, 1, 1]) (tr := [.reg [], .reg [.none, (.pv fra.pv)], .reg [.none, .none, (.pv (vI pie))], dr 13 1 [.none, .none, .none, (.row k ((lcell ARat.cells) v)), .none, .none, .none, .none, .none, (.row k1 (ARat.cells v1)), .none, (.pv sub.pv), (.pv atV.pv)]]) (cj h1 (cj h2 (cj (o_at (lcell ARat.cells) h3 h4) (cj (o_at ARat.cells h5 h6) (cj h7 (cj h8 True.intro)))))) (by kernel_rfl))
end linkworkref52_At

namespace linkworkref52_Rise
@[reducible] noncomputable def fn : Func := Tryz.f13
noncomputable def atK1 : List Itm := focus [0, 2, 0, 0, 2, 1, 2, 0, 2, 0, 0, 2, 0, 0, 2, 0, 2, 2, 0, 2, 0, 2, 0, 0, 2, 0, 0] [.code (bodyOf fn)]
def inv1 (site_35 : List Int) (site_60 : List ARat) (i_13 : Nat) (length fromV site_12 : ARat) : St := ⟨[(4, (.ptr 4 0)), (5, (.ptr 5 0)), (10, (.row 35 0 site_35.length 1)), (11, (.row 60 0 site_60.length 3)), (12, (.ptr 12 0)), (13, (eI (i_13 : Int)))], [(4, (.lit [(eB length.neg), (.pv (wordsPV length.num)), (.pv (wordsPV length.den))])), (5, (.lit [(eB fromV.neg), (.pv (wordsPV fromV.num)), (.pv (wordsPV fromV.den))])), (12, (.lit [(eB site_12.neg), (.pv (wordsPV site_12.num)), (.pv (wordsPV site_12.den))])), (35, (.pure ((site_35 : List Int).map intCell).flatten)), (60, (.pure ((site_60 : List ARat).map ARat.cells).flatten))]⟩
@[reducible] noncomputable def Loop1 (site_35 : List Int) (site_60 : List ARat) (i_13 : Nat) (length fromV site_12 : ARat) (r : PV) : Prop := L prg fn atK1 (inv1 site_35 site_60 i_13 length fromV site_12) r
theorem e0 (length fromV toV : ARat) (degree : Int) (val : Bool) (h1 : Contract prg 28 [length.pv] (vB val)) (h2 : val = false) : Contract prg 13 [length.pv, fromV.pv, toV.pv, (vI degree)] (.tup [(polyPV []), (vI 3)]) :=
  Contract.ofL Tryz.func13 (by kernel_rfl) (L.done mixed tabOk (n := 84) (ns := [1, 1, 1, 1, 1, 1, 1, 1, 1, 1, 1]) (tr := [.reg [], .reg [.none, (.pv (vB val)), .none, .none, .skip, .skip, .skip, (.dec true), .none, .skip, .skip, .skip, .none, .none, .skip, .skip, .skip], .auto, .reg []]) (cj h1 (cj (bnot_t h2) (cj (bnot_t h2) (cj (bnot_t h2) (cj (bnot_t h2) (cj (Eq.refl true) (cj (Eq.refl true) (cj (Eq.refl true) (cj (Eq.refl true) (cj (Eq.refl true) (cj (Eq.refl true) True.intro))))))))))) (by kernel_rfl))
theorem e1 (length fromV toV : ARat) (degree : Int) (val : Bool) (sig : Int) (h1 : Contract prg 28 [length.pv] (vB val)) (h2 : val = true) (h3 : Contract prg 19 [length.pv] (vI sig)) (h4 : sig ≤ 0) : Contract prg 13 [length.pv, fromV.pv, toV.pv, (vI degree)] (.tup [(polyPV []), (vI 3)]) :=
  Contract.ofL Tryz.func13 (by kernel_rfl) (L.done mixed tabOk (n := 84) (ns := [1, 1, 1, 1, 1, 1, 1, 1, 1, 1, 1, 1, 1]) (tr := [.reg [], .reg [.none, (.pv (vB val)), .none, .none, .none, (.pv (vI sig)), .none, (.dec false), .none, .skip, .skip, .skip, (.dec true), .none, .skip, .skip, .skip], .auto, .reg []]) (cj h1 (cj (bnot_f h2) (cj (bnot_f h2) (cj h3 (cj (bnot_f h2) (cj (bnot_f h2) (cj (dle_t h4) (cj (dle_t h4) (cj (dle_t h4) (cj (dle_t h4) (cj (Eq.refl true) (cj (Eq.refl true) (cj (Eq.refl true) True.intro))))))))))))) (by kernel_rfl))
theorem e2 (length fromV toV : ARat) (degree : Int) (val : Bool) (sig : Int) (val1 : Bool) (h1 : Contract prg 28 [length.pv] (vB val)) (h2 : val = true) (h3 : Contract prg 19 [length.pv] (vI sig)) (h4 : 0 < sig) (h5 : Contract prg 28 [fromV.pv] (vB val1)) (h6 : val1 = false) : Contract prg 13 [length.pv, fromV.pv, toV.pv, (vI degree)] (.tup [(polyPV []), (vI 3)]) :=
  Contract.ofL Tryz.func13 (by kernel_rfl) (L.done mixed tabOk (n := 84) (ns := [1, 1, 1, 1, 1, 1, 1, 1, 1, 1, 1, 1, 1, 1, 1]) (tr := [.reg [], .reg [.none, (.pv (vB val)), .none, .none, .none, (.pv (vI sig)), .none, (.dec false), .none, .none, (.pv (vB val1)), .none, (.dec false), .none, .skip, .skip, .skip, (.dec true)], .auto, .reg []]) (cj h1 (cj (bnot_f h2) (cj (bnot_f h2) (cj h3 (cj (bnot_f h2) (cj (bnot_f h2) (cj (dle_f h4) (cj (dle_f h4) (cj h5 (cj (dle_f h4) (cj (dle_f h4) (cj (bnot_t h6) (cj (bnot_t h6) (cj (bnot_t h6) (cj (bnot_t h6) True.intro))))))))))))))) (by kernel_rfl))
theorem e3 (length fromV toV : ARat) (degree : Int) (val : Bool) (sig : Int) (val1 val2 : Bool) (h1 : Contract prg 28 [length.pv] (vB val)) (h2 : val = true) (h3 : Contract prg 19 [length.pv] (vI sig)) (h4 : 0 < sig) (h5 : Contract prg 28 [fromV.pv] (vB val1)) (h6 : val1 = true) (h7 : Contract prg 28 [toV.pv] (vB val2)) (h8 : val2 = false) : Contract prg 13 [length.pv, fromV.pv, toV.pv, (vI degree)] (.tup [(polyPV []), (vI 3)]) :=
  Contract.ofL Tryz.func13 (by kernel_rfl) (L.done mixed tabOk (n := 84) (ns := [1, 1, 1, 1, 1, 1, 1, 1, 1, 1, 1, 1, 1, 1, 1, 1, 1]) (tr := [.reg [], .reg [.none, (.pv (vB val)), .none, .none, .none, (.pv (vI sig)), .none, (.dec false), .none, .none, (.pv (vB val1)), .none, (.dec false), .none, .none, (.pv (vB val2)), .none, (.dec false)], .dec true, .reg []]) (cj h1 (cj (bnot_f h2) (cj (bnot_f h2) (cj h3 (cj (bnot_f h2) (cj (bnot_f h2) (cj (dle_f h4) (cj (dle_f h4) (cj h5 (cj (dle_f h4) (cj (dle_f h4) (cj (bnot_f h6) (cj (bnot_f h6) (cj h7 (cj (bnot_f h6) (cj (bnot_f h6) (cj (bnot_t h8) True.intro))))))))))))))))) (by kernel_rfl))
theorem e4 (length fromV toV : ARat) (degree : Int) (val : Bool) (sig : Int) (val1 val2 : Bool) (sub : ARat) {r : PV} (h1 : Contract prg 28 [length.pv] (vB val)) (h2 : val = true) (h3 : Contract prg 19 [length.pv] (vI sig)) (h4 : 0 < sig) (h5 : Contract prg 28 [fromV.pv] (vB val1)) (h6 : val1 = true) (h7 : Contract prg 28 [toV.pv] (vB val2)) (h8 : val2 = true) (h9 : degree = 1) (h10 : Contract prg 56 [toV.pv, fromV.pv] sub.pv) (hL : Loop1 [0, 1] [] 0 length fromV sub r) : Contract prg 13 [length.pv, fromV.pv, toV.pv, (vI degree)] r :=
  Contract.ofL Tryz.func13 (by kernel_rfl) (L.go mixed tabOk (n := 141) (ns := [1, 1, 1, 1, 1, 1, 1, 1, 1, 1, 1, 1, 1, 1, 1, 1, 1, 1, 1]) (tr := [.reg [], .reg [.none, (.pv (vB val)), .none, .none, .none, (.pv (vI sig)), .none, (.dec false), .none, .none, (.pv (vB val1)), .none, (.dec false), .none, .none, (.pv (vB val2)), .none, (.dec false)], .dec false, .reg [], .reg [], .reg [], .dec true, .reg [], .reg [.nil], .adopt 11 60 3, .reg [.none, .none, (.pv sub.pv)], .reg [], .keep [4, 5, 10, 11, 12, 13], .drop [6], .ord [4, 5, 12, 35, 60]]) (cj h1 (cj (bnot_f h2) (cj (bnot_f h2) (cj h3 (cj (bnot_f h2) (cj (bnot_f h2) (cj (dle_f h4) (cj (dle_f h4) (cj h5 (cj (dle_f h4) (cj (dle_f h4) (cj (bnot_f h6) (cj (bnot_f h6) (cj h7 (cj (bnot_f h6) (cj (bnot_f h6) (cj (bnot_f h8) (cj (deq_t h9) (cj h10 True.intro))))))))))))))))))) (by kernel_rfl) hL)
theorem e5 (length fromV toV : ARat) (degree : Int) (val : Bool) (sig : Int) (val1 val2 : Bool) (sub : ARat) {r : PV} (h1 : Contract prg 28 [length.pv] (vB val)) (h2 : val = true) (h3 : Contract prg 19 [length.pv] (vI sig)) (h4 : 0 < sig) (h5 : Contract prg 28 [fromV.pv] (vB val1)) (h6 : val1 = true) (h7 : Contract prg 28 [toV.pv] (vB val2)) (h8 : val2 = true) (h9 : degree ≠ 1) (h10 : degree = 3) (h11 : Contract prg 56 [toV.pv, fromV.pv] sub.pv) (hL : Loop1 [0, 0, 3, (-2)] [] 0 length fromV sub r) : Contract prg 13 [length.pv, fromV.pv, toV.pv, (vI degree)] r :=
  Contract.ofL Tryz.func13 (by kernel_rfl) (L.go mixed tabOk (n := 150) (ns := [1, 1, 1, 1, 1, 1, 1, 1, 1, 1, 1, 1, 1, 1, 1, 1, 1, 1, 1, 1]) (tr := [.reg [], .reg [.none, (.pv (vB val)), .none, .none, .none, (.pv (vI sig)), .none, (.dec false), .none, .none, (.pv (vB val1)), .none, (.dec false), .none, .none, (.pv (vB val2)), .none, (.dec false)], .dec false, .reg [], .reg [], .reg [], .dec false, .reg [], .dec true, .reg [], .reg [.nil], .adopt 11 60 3, .reg [.none, .none, (.pv sub.pv)], .reg [], .keep [4, 5, 10, 11, 12, 13], .drop [6], .ren 38 35, .ord [4, 5, 12, 35, 60]]) (cj h1 (cj (bnot_f h2) (cj (bnot_f h2) (cj h3 (cj (bnot_f h2) (cj (bnot_f h2) (cj (dle_f h4) (cj (dle_f h4) (cj h5 (cj (dle_f h4) (cj (dle_f h4) (cj (bnot_f h6) (cj (bnot_f h6) (cj h7 (cj (bnot_f h6) (cj (bnot_f h6) (cj (bnot_f h8) (cj (deq_f h9) (cj (deq_t h10) (cj h11 True.intro)))))))))))))))))))) (by kernel_rfl) hL)
theorem e6 (length fromV toV : ARat) (degree : Int) (val : Bool) (sig : Int) (val1 val2 : Bool) (sub : ARat) {r : PV} (h1 : Contract prg 28 [length.pv] (vB val)) (h2 : val = true) (h3 : Contract prg 19 [length.pv] (vI sig)) (h4 : 0 < sig) (h5 : Contract prg 28 [fromV.pv] (vB val1)) (h6 : val1 = true) (h7 : Contract prg 28 [toV.pv] (vB val2)) (h8 : val2 = true) (h9 : degree ≠ 1) (h10 : degree ≠ 3) (h11 : degree = 5) (h12 : Contract prg 56 [toV.pv, fromV.pv] sub.pv) (hL : Loop1 [0, 0, 0, 10, (-15), 6] [] 0 length fromV sub r) : Contract prg 13 [length.pv, fromV.pv, toV.pv, (vI degree)] r :=
  Contract.ofL Tryz.func13 (by kernel_rfl) (L.go mixed tabOk (n := 159) (ns := [1, 1, 1, 1, 1, 1, 1, 1, 1, 1, 1, 1, 1, 1, 1, 1, 1, 1, 1, 1, 1]) (tr := [.reg [], .reg [.none, (.pv (vB val)), .none, .none, .none, (.pv (vI sig)), .none, (.dec false), .none, .none, (.pv (vB val1)), .none, (.dec false), .none, .none, (.pv (vB val2)), .none, (.dec false)], .dec false, .reg [], .reg [], .reg [], .dec false, .reg [], .dec false, .reg [], .dec true, .reg [], .reg [.nil], .adopt 11 60 3, .reg [.none, .none, (.pv sub.pv)], .reg [], .keep [4, 5, 10, 11, 12, 13], .drop [6], .ren 41 35, .ord [4, 5, 12, 35, 60]]) (cj h1 (cj (bnot_f h2) (cj (bnot_f h2) (cj h3 (cj (bnot_f h2) (cj (bnot_f h2) (cj (dle_f h4) (cj (dle_f h4) (cj h5 (cj (dle_f h4) (cj (dle_f h4) (cj (bnot_f h6) (cj (bnot_f h6) (cj h7 (cj (bnot_f h6) (cj (bnot_f h6) (cj (bnot_f h8) (cj (deq_f h9) (cj (deq_f h10) (cj (deq_t h11) (cj h12 True.intro))))))))))))))))))))) (by kernel_rfl) hL)
theorem e7 (length fromV toV : ARat) (degree : Int) (val : Bool) (sig : Int) (val1 val2 : Bool) (h1 : Contract prg 28 [length.pv] (vB val)) (h2 : val = true) (h3 : Contract prg 19 [length.pv] (vI sig)) (h4 : 0 < sig) (h5 : Contract prg 28 [fromV.pv] (vB val1)) (h6 : val1 = true) (h7 : Contract prg 28 [toV.pv] (vB val2)) (h8 : val2 = true) (h9 : degree ≠ 1) (h10 : degree ≠ 3) (h11 : degree ≠ 5) : Contract prg 13 [length.pv, fromV.pv, toV.pv, (vI degree)] (.tup [(polyPV []), (vI 7)]) :=
  Contract.ofL Tryz.func13 (by kernel_rfl) (L.done mixed tabOk (n := 132) (ns := [1, 1, 1, 1, 1, 1, 1, 1, 1, 1, 1, 1, 1, 1, 1, 1, 1, 1, 1, 1]) (tr := [.reg [], .reg [.none, (.pv (vB val)), .none, .none, .none, (.pv (vI sig)), .none, (.dec false), .none, .none, (.pv (vB val1)), .none, (.dec false), .none, .none, (.pv (vB val2)), .none, (.dec false)], .dec false, .reg [], .reg [], .reg [], .dec false, .reg [], .dec false, .reg [], .dec false, .reg []]) (cj h1 (cj (bnot_f h2) (cj (bnot_f h2) (cj h3 (cj (bnot_f h2) (cj (bnot_f h2) (cj (dle_f h4) (cj (dle_f h4) (cj h5 (cj (dle_f h4) (cj (dle_f h4) (cj (bnot_f h6) (cj (bnot_f h6) (cj h7 (cj (bnot_f h6) (cj (bnot_f h6) (cj (bnot_f h8) (cj (deq_f h9) (cj (deq_f h10) (cj (deq_f h11) True.intro)))))))))))))))))))) (by kernel_rfl))
theorem l10 (site_35 : List Int) (site_60 : List ARat) (i_13 : Nat) (length fromV site_12 : ARat) (v : Int) (of mul div : ARat) (div1 : Int) {r : PV} (h1 : i_13 < site_35.length) (h2 : site_35[i_13]? = some v) (h3 : Contract prg 58 [(vI v)] of.pv) (h4 : Contract prg 57 [site_12.pv, of.pv] mul.pv) (h5 : ((site_60 ++ [mul]) : List ARat).length * 56 ≤ 140737488355328) (h6 : Contract prg 59 [site_12.pv, length.pv] (.tup [div.pv, (vI div1)])) (h7 : (i_13 + 1) < 9223372036854775808) (hL : Loop1 site_35 (site_60 ++ [mul]) (i_13 + 1) length fromV div r) : Loop1 site_35 site_60 i_13 length fromV site_12 r :=
  L.go mixed tabOk (n := 180) (ns := [1, 2, 1, 1, 1, 6, 1, 1]) (tr := [.auto, .reg [], .dec true, dr 9 2 [.none, .none, .none, .none, (.nat i_13), (.ev (.pv (vI v))), (.pv of.pv), (.pv mul.pv), .none, (.app ((site_60 ++ [mul]) : List ARat).length (((site_60 ++ [mul]) : List ARat).map ARat.cells).flatten)], .reg [.none, .none, (.pv (.tup [div.pv, (vI div1)]))], .reg [.none, (iI (((i_13 + 1) : Nat) : Int))], .keep [4, 5, 10, 11, 12, 13], .drop [59], .ord [4, 5, 12, 35, 60]]) (cj (dltN_t h1) (cj (cj (Eq.refl (((i_13 : Nat) : Int) : Int)) h1) (cj (o_get (enc := intCell) (f := fun a => (vI a)) (fun _ => rfl) h2) (cj h3 (cj h4 (cj (o_appR sz_ARat (site_60 : List ARat) ([mul] : List ARat) 56 (Eq.refl (site_60 : List ARat).length) (Eq.refl ([mul] : List ARat).length) h5 rfl) (cj h6 (cj (bs_addN h7) True.intro)))))))) (by kernel_rfl) hL
theorem l11 (site_35 : List Int) (site_60 : List ARat) (i_13 : Nat) (length fromV site_12 : ARat) (tri : List ARat) (h1 : site_35.length ≤ i_13) (h2 : 0 < site_60.length) (h3 : site_60.length = (site_60.set 0 fromV).length) (h4 : Contract prg 60 [(polyPV (site_60.set 0 fromV))] (polyPV tri)) : Loop1 site_35 site_60 i_13 length fromV site_12 (.tup [(polyPV tri), (vI 0)]) :=
  L.done mixed tabOk (n := 180) (ns := [1, 2, 2, 3, 1]) (tr := [.auto, .reg [], .dec false, .reg [.none, .none, (.nat 0), (.cells (.pure (((site_60.set 0 fromV) : List ARat).map ARat.cells).flatten))], .frzT 11 (((site_60.set 0 fromV) : List ARat).map ARat.cells), .reg [.none, (.pv (polyPV tri))]]) (cj (dltN_f h1) (cj (cj (Eq.refl (0 : Int)) h2) (cj (o_set sz_ARat (site_60 : List ARat) fromV h2) (cj (o_frz sz_ARat ((site_60.set 0 fromV) : List ARat) h3) (cj h4 True.intro))))) (by kernel_rfl)
end linkworkref52_Rise

namespace linkworkref52_End
@[reducible] noncomputable def fn : Func := Tryz.f97
theorem e0 (l : ALaw) (i : Int) (k : Nat) (v : ARat) (h1 : InI64 (i + 1)) (h2 : (i + 1) < (l.breaks.length : Int)) (h3 : (i + 1) = (k : Int)) (h4 : l.breaks[k]? = some v) : Contract prg 97 [l.pv, (vI i)] v.pv :=
  Contract.ofL Tryz.func97 (by kernel_rfl) (L.done mixed tabOk (n := 84) (ns := [1, 1, 1, 1, 3]) (tr := [.reg [], .reg [.none, (iI (i + 1)), .none, .none, (iI (l.breaks.length : Int))], .dec true, .reg [.none, .none, .none, (iI (i + 1)), (.row k (ARat.cells v))]]) (cj (bs_add h1) (cj (o_len ARat.cells l.breaks) (cj (dlt_t h2) (cj (bs_add h1) (cj (o_at ARat.cells h3 h4) True.intro))))) (by kernel_rfl))
theorem e1 (l : ALaw) (i : Int) (of : ARat) (h1 : InI64 (i + 1)) (h2 : (l.breaks.length : Int) ≤ (i + 1)) (h3 : Contract prg 58 [(vI 1)] of.pv) : Contract prg 97 [l.pv, (vI i)] of.pv :=
  Contract.ofL Tryz.func97 (by kernel_rfl) (L.done mixed tabOk (n := 87) (ns := [1, 1, 1, 1]) (tr := [.reg [], .reg [.none, (iI (i + 1)), .none, .none, (iI (l.breaks.length : Int))], .dec false, .reg [(.pv of.pv)]]) (cj (bs_add h1) (cj (o_len ARat.cells l.breaks) (cj (dlt_f h2) (cj h3 True.intro)))) (by kernel_rfl))
end linkworkref52_End

end Go.Proofs.YtcgbmnkgmepikaaGreat.Sym.Path


/-
  CLw: what the functions of law return.
-/
namespace Go.Proofs.YtcgbmnkgmepikaaGreat.Sym
open Go Path CInt
set_option linter.unusedVariables false

namespace CLw

theorem one : Contract prg 53 [] (mkR (1 : Int)).pv := law_one.e0 _ (CFr.Of 1 (by unfold InI64; omega))

theorem Check2 (l : ALaw) (hl : l.pieces.length < 4611686018427387904) (hf : ∀ p ∈ l.pieces, FitP 274877906944 p) : ∀ (j t : Nat), l.pieces.length - t = j → law_Check.Loop2 l t (errPV (errOf (chkP (l.pieces.drop t)))) := by
  intro j
  induction j with
  | zero =>
    intro t hj
    rw [List.drop_of_length_le (by omega)]
    exact law_Check.l23 l t (by omega)
  | succ j ih =>
    intro t hj
    obtain ⟨v, hv⟩ : ∃ v, l.pieces[t]? = some v := ⟨_, List.getElem?_eq_getElem (by omega)⟩
    have hvf := hf v (List.mem_of_getElem? hv)
    have hc := CPo.Check v hvf
    rw [drop_cons hv, chkP]
    by_cases h0 : chk v = 0
    · rw [decide_eq_false (by simpa using h0), cond_false]
      rw [h0] at hc
      have hd := poly_Degree.e0 v (by have := chk_len h0; unfold InI64; omega)
      by_cases h9 : 9 < v.length
      · rw [show Nat.blt 9 v.length = true from by simpa [Nat.blt_eq] using h9, cond_true]
        exact law_Check.l20 l t v _ (by omega) hv hc hd (by omega)
      · rw [show Nat.blt 9 v.length = false from by cases hb : Nat.blt 9 v.length with
          | false => rfl
          | true => exact absurd (by simpa [Nat.blt_eq] using hb) h9, cond_false]
        exact law_Check.l21 l t v _ (by omega) hv hc hd (by omega) (by omega) (ih (t + 1) (by omega))
    · rw [decide_eq_true h0, cond_true]
      rw [errOf_ne h0] at hc ⊢
      exact law_Check.l22 l t v _ (by omega) hv hc

theorem Check (l : ALaw) (hf : FitW 1073741824 l) : Contract prg 24 [l.pv] (errPV (errOf (chkLaw l))) := by
  unfold chkLaw
  by_cases h0 : l.breaks.length = 0
  · rw [if_pos (Or.inl h0)]; exact law_Check.e0 l h0
  by_cases h1 : l.breaks.length = l.pieces.length
  · rw [if_neg (by intro h; rcases h with h | h <;> omega)]
    by_cases h2 : 16 < l.breaks.length
    · rw [if_pos h2]; exact law_Check.e2 l h0 h1 h2
    · rw [if_neg h2]
      have hps : ∀ p ∈ l.pieces, FitP 274877906944 p := fun p hp a ha => ⟨by have := (hf.2 p hp a ha).1; omega, by have := (hf.2 p hp a ha).2; omega⟩
      have loop : ∀ (j t : Nat) (p : Option Rat), l.breaks.length - t = j → t ≤ l.breaks.length → (t = 0 → p = none) → (∀ k v, t = k + 1 → l.breaks[k]? = some v → p = some v.val) → law_Check.Loop1 l t (errPV (errOf (chkR p (l.breaks.drop t) l.pieces))) := by
        intro j
        induction j with
        | zero =>
          intro t p hj ht _ _
          rw [List.drop_of_length_le (by omega), chkR_nil]
          refine law_Check.l110 l t (by omega) ?_
          have := Check2 l (by omega) hps _ 0 rfl
          rwa [List.drop_zero] at this
        | succ j ih =>
          intro t p hj ht hp0 hp
          obtain ⟨v, hv⟩ : ∃ v, l.breaks[t]? = some v := ⟨_, List.getElem?_eq_getElem (by omega)⟩
          have hvf := hf.1 v (List.mem_of_getElem? hv)
          have hva := CFr.Valid v ⟨by omega, by omega⟩
          have hsg := CFr.Sign v ⟨by omega, by omega⟩
          have hone := one
          have hcm := CFr.Cmp v (mkR (1 : Int)) ⟨by omega, by omega⟩ ⟨by decide, by decide⟩
          rw [mkR_val, show ((1 : Int) : Rat) = 1 from rfl] at hcm
          rw [drop_cons hv]
          cases hvv : v.valid with
          | false =>
            rw [chkR_stop (chkB_out (outB_inv hvv)) (by omega)]
            exact law_Check.l10 l t v _ (by omega) hv hva hvv
          | true =>
            by_cases hs : v.val < 0
            · rw [chkR_stop (chkB_out (outB_lt hs)) (by omega)]
              exact law_Check.l11 l t v _ _ (by omega) hv hva hvv hsg (cmpR_lt.2 hs)
            · have hs' : 0 ≤ cmpR v.val 0 := cmpR_ge.2 (by grind)
              by_cases hc : 1 ≤ v.val
              · rw [chkR_stop (chkB_out (outB_ge hc)) (by omega)]
                exact law_Check.l12 l t v _ _ _ _ (by omega) hv hva hvv hsg hs' hone hcm (cmpR_ge.2 hc)
              · have ho := outB_no hvv hs hc
                have hc' : cmpR v.val 1 < 0 := cmpR_lt.2 (by grind)
                by_cases ht0 : t = 0
                · have := hp0 ht0
                  subst this
                  by_cases hz : v.val = 0
                  · rw [chkR_cons ho (by unfold badB; exact decide_eq_false (by simpa using hz))]
                    refine law_Check.l16 l t v _ _ _ _ _ (by omega) hv hva hvv hsg hs' hone hcm hc' ht0 hsg (cmpR_eq.2 hz) (by omega) (by omega) (ih (t + 1) _ (by omega) (by omega) (by omega) ?_)
                    intro k u hk hu
                    have : k = t := by omega
                    subst this
                    rw [hv] at hu; injection hu with hu; rw [hu]
                  · rw [chkR_stop (chkB_bad ho (by unfold badB; exact decide_eq_true hz)) (by omega)]
                    exact law_Check.l13 l t v _ _ _ _ _ (by omega) hv hva hvv hsg hs' hone hcm hc' ht0 hsg (fun e => hz (cmpR_eq.1 e))
                · obtain ⟨k, hk⟩ : ∃ k, t = k + 1 := ⟨t - 1, by omega⟩
                  obtain ⟨u, hu⟩ : ∃ u, l.breaks[k]? = some u := ⟨_, List.getElem?_eq_getElem (by omega)⟩
                  have := hp k u hk hu
                  subst this
                  have huf := hf.1 u (List.mem_of_getElem? hu)
                  have hcu := CFr.Cmp v u ⟨by omega, by omega⟩ ⟨by omega, by omega⟩
                  by_cases hz : v.val ≤ u.val
                  · rw [chkR_stop (chkB_bad ho (by unfold badB; exact decide_eq_true hz)) (by omega)]
                    exact law_Check.l17 l t v _ _ _ _ k u _ (by omega) hv hva hvv hsg hs' hone hcm hc' ht0 (by omega) (by unfold InI64; omega) (by omega) hu hcu (cmpR_le.2 hz)
                  · rw [chkR_cons ho (by unfold badB; exact decide_eq_false hz)]
                    refine law_Check.l18 l t v _ _ _ _ k u _ (by omega) hv hva hvv hsg hs' hone hcm hc' ht0 (by omega) (by unfold InI64; omega) (by omega) hu hcu (cmpR_gt.2 (by grind)) (by omega) (ih (t + 1) _ (by omega) (by omega) (by omega) ?_)
                    intro k' u' hk' hu'
                    have : k' = t := by omega
                    subst this
                    rw [hv] at hu'; injection hu' with hu'; rw [hu']
      refine law_Check.e3 l h0 h1 (by omega) ?_
      have := loop _ 0 none rfl (by omega) (fun _ => rfl) (fun k v h => by omega)
      rwa [List.drop_zero] at this
  · rw [if_pos (Or.inr h1)]; exact law_Check.e1 l h0 h1

theorem wrapped (x : ARat) (h : x.num.length ≤ 1073741824 ∧ x.den.length ≤ 1073741824) : Contract prg 66 [x.pv] (.tup [(mkR (frac x.val)).pv, .nilI]) := by
  obtain ⟨f1, f2⟩ := h
  have hh := ht_fit (k := 1073741824) f1 f2 (by omega)
  have hfl := CFr.Floor x ⟨by omega, by omega⟩
  have hw := wl_floor x.val
  have hfr := CFr.From (Sym.whole x.val.floor) (⟨false, [(1 : UInt32)]⟩ : AWhole) (show wl _ ≤ _ by omega) (by decide) (by decide)
  rw [whole_val, show Rat.divInt x.val.floor (⟨false, [(1 : UInt32)]⟩ : AWhole).val = (x.val.floor : Rat) from by rw [show (⟨false, [(1 : UInt32)]⟩ : AWhole).val = 1 from rfl, Rat.divInt_eq_div]; grind] at hfr
  have hi := ht_int x.val.floor
  have hs := CFr.Sub x (mkR (x.val.floor : Rat)) ⟨by omega, by omega⟩ (fit_mkR (by omega))
  rw [mkR_val] at hs
  exact law_wrapped.e0 x _ _ _ _ hfl law_whole.e0 hfr hs

theorem piece (l : ALaw) (x : ARat) (g : Good l) (hf : FitP 1073741824 l.breaks) (hx : x.num.length ≤ 1073741824 ∧ x.den.length ≤ 1073741824) (h0 : 0 ≤ x.val) : Contract prg 67 [l.pv, x.pv] (vI (pieceL (vals l.breaks) x.val : Nat)) := by
  have hlen : (vals l.breaks).length = l.breaks.length := by unfold vals; rw [List.length_map]
  have hle := g.le
  have hn0 := g.n0
  have loop : ∀ (n : Nat), n < l.breaks.length → (∀ b, (vals l.breaks)[n + 1]? = some b → x.val < b) → law_piece.Loop1 (n : Int) l x (vI (pieceL (vals l.breaks) x.val : Nat)) := by
    intro n
    induction n with
    | zero =>
      intro hn hup
      obtain ⟨v, hv⟩ : ∃ v, l.breaks[0]? = some v := ⟨_, List.getElem?_eq_getElem (by omega)⟩
      have hvf := hf v (List.mem_of_getElem? hv)
      have hc := CFr.Cmp v x ⟨by omega, by omega⟩ ⟨by omega, by omega⟩
      have e := g.first v hv
      have hp : pieceL (vals l.breaks) x.val = 0 := by
        refine pieceF_eq _ _ 0 (fun j b hj => by omega) (fun b hb => hup b ?_) (by omega)
        rw [List.getElem?_drop] at hb; rw [Nat.add_comm]; exact hb
      rw [hp]
      refine law_piece.l11 _ l x 0 v _ (by omega) hv hc (cmpR_le.2 (by grind))
    | succ n ih =>
      intro hn hup
      obtain ⟨v, hv⟩ : ∃ v, l.breaks[n + 1]? = some v := ⟨_, List.getElem?_eq_getElem (by omega)⟩
      have hvf := hf v (List.mem_of_getElem? hv)
      have hvv : (vals l.breaks)[n + 1]? = some v.val := by unfold vals; rw [List.getElem?_map, hv]; rfl
      have hc := CFr.Cmp v x ⟨by omega, by omega⟩ ⟨by omega, by omega⟩
      by_cases hle2 : v.val ≤ x.val
      · have hp : pieceL (vals l.breaks) x.val = n + 1 := by
          refine pieceF_eq _ _ (n + 1) (fun j b hj hb => ?_) (fun b hb => hup b ?_) (by rw [List.length_drop]; omega)
          · rw [List.getElem?_drop] at hb
            by_cases hjn : j = n
            · subst hjn
              rw [Nat.add_comm, hvv] at hb; injection hb with hb; rw [← hb]; exact hle2
            · have h1 : 1 + j < (vals l.breaks).length := (List.getElem?_eq_some_iff.1 hb).1
              have h2 : n + 1 < (vals l.breaks).length := by omega
              have := List.pairwise_iff_getElem.1 g.asc (1 + j) (n + 1) h1 h2 (by omega)
              rw [(List.getElem?_eq_some_iff.1 hb).2, (List.getElem?_eq_some_iff.1 hvv).2] at this
              grind
          · rw [List.getElem?_drop] at hb; rw [Nat.add_comm]; exact hb
        rw [hp]
        refine law_piece.l11 _ l x (n + 1) v _ (by omega) hv hc (cmpR_le.2 (by grind))
      · refine law_piece.l10 _ l x (n + 1) v _ (by omega) hv hc (cmpR_gt.2 (by grind)) (by unfold InI64; omega) ?_
        have := ih (by omega) (fun b hb => by rw [hvv] at hb; injection hb with hb; rw [← hb]; grind)
        rwa [show ((n + 1 : Nat) : Int) - 1 = (n : Int) from by omega]
  have := loop (l.breaks.length - 1) (by omega) (fun b hb => by
    rw [List.getElem?_eq_none (by omega)] at hb; cases hb)
  refine law_piece.e0 l x (by unfold InI64; omega) ?_
  rwa [show ((l.breaks.length - 1 : Nat) : Int) = (l.breaks.length : Int) - 1 from by omega] at this

theorem frac_nonneg (x : Rat) : 0 ≤ frac x := by
  have := Rat.floor_le (a := x)
  unfold frac
  grind

theorem At (l : ALaw) (x : ARat) (hc : chkLaw l = 0) (hf : FitW 1048576 l) (hv : x.valid = true) (hx : x.num.length ≤ 1048576 ∧ x.den.length ≤ 1048576) : Contract prg 21 [l.pv, x.pv] (.tup [(mkR (atW l x.val)).pv, .nilI]) := by
  have g := good_of hc
  have hk := Check l ⟨fun a ha => ⟨by have := (hf.1 a ha).1; omega, by have := (hf.1 a ha).2; omega⟩, fun p hp a ha => ⟨by have := (hf.2 p hp a ha).1; omega, by have := (hf.2 p hp a ha).2; omega⟩⟩
  rw [hc] at hk
  have hva := CFr.Valid x ⟨by omega, by omega⟩
  have hw := wrapped x ⟨by omega, by omega⟩
  have hxv := hv
  obtain ⟨f1, f2⟩ := hx
  have hh := ht_fit (k := 1048576) f1 f2 (by omega)
  have hfr := ht_frac hh
  have hxf := fit_mkRk (k := 2097154) (q := frac x.val) (by omega)
  have hn0 := g.n0
  have hlen := g.len
  have hle := g.le
  have hlen2 : (vals l.breaks).length = l.breaks.length := by unfold vals; rw [List.length_map]
  have hlt := pieceL_lt (bs := vals l.breaks) (by omega) (frac x.val)
  obtain ⟨v, hv⟩ : ∃ v, l.breaks[pieceL (vals l.breaks) (frac x.val)]? = some v := ⟨_, List.getElem?_eq_getElem (by omega)⟩
  obtain ⟨p, hp⟩ : ∃ p, l.pieces[pieceL (vals l.breaks) (frac x.val)]? = some p := ⟨_, List.getElem?_eq_getElem (by omega)⟩
  have hvf := hf.1 v (List.mem_of_getElem? hv)
  have hpf := hf.2 p (List.mem_of_getElem? hp)
  have hvh := ht_fit hvf.1 hvf.2 (by omega)
  obtain ⟨hpc, hpl⟩ := g.ps p (List.mem_of_getElem? hp)
  have hsub := CFr.Sub (mkR (frac x.val)) v ⟨by omega, by omega⟩ ⟨by omega, by omega⟩
  rw [mkR_val] at hsub
  have hsf := fit_mkRk (k := 1073741824) (q := frac x.val - v.val) (by have := ht_sub (frac x.val) v.val; omega)
  have e : atW l x.val = evalL (vals p) (frac x.val - v.val) := by unfold atW; rw [List.getD_eq_getElem?_getD, List.getD_eq_getElem?_getD, hv, hp]; rfl
  rw [e]
  have hpi := piece l (mkR (frac x.val)) g (fun a ha => ⟨by have := (hf.1 a ha).1; omega, by have := (hf.1 a ha).2; omega⟩) ⟨by omega, by omega⟩ (by rw [mkR_val]; exact frac_nonneg _)
  rw [mkR_val] at hpi
  have hev := CPo.Eval p (mkR (frac x.val - v.val)) hpc (fun a ha => ⟨by have := (hpf a ha).1; omega, by have := (hpf a ha).2; omega⟩) hsf
  rw [mkR_val] at hev
  exact law_At.e1 l x _ _ _ _ p _ v _ _ none hk hva hxv hw hpi rfl hp rfl hv hsub hev

theorem AtE (l : ALaw) (x : ARat) (hc : chkLaw l ≠ 0) (hf : FitW 1073741824 l) : Contract prg 21 [l.pv, x.pv] (.tup [(mkR 0).pv, errPV (some (chkLaw l))]) := by
  have hk := Check l hf
  rw [errOf_ne hc] at hk
  exact law_At.e3 l x _ hk

theorem AtV (l : ALaw) (x : ARat) (hc : chkLaw l = 0) (hf : FitW 1073741824 l) (hv : x.valid = false) (hx : FitR x) : Contract prg 21 [l.pv, x.pv] (.tup [(mkR 0).pv, errPV (some 3)]) := by
  have hk := Check l hf
  rw [hc] at hk
  exact law_At.e0 l x _ hk (CFr.Valid x hx) hv

theorem end' (l : ALaw) (i : Nat) (hl : l.breaks.length ≤ 1073741824) (hi : i < l.breaks.length) (hv : l.breaks.all ARat.valid = true) : Contract prg 88 [l.pv, vI (i : Int)] (mkR (endW l i)).pv := by
  unfold endW
  cases h : l.breaks[i + 1]? with
  | some v =>
    have h1 := (List.getElem?_eq_some_iff.1 h).1
    show Contract prg _ _ (mkR v.val).pv
    rw [mkR_of (List.all_eq_true.1 hv v (List.mem_of_getElem? h))]
    exact law_end.e0 l i (i + 1) v (by unfold InI64; omega) (by omega) (by omega) h
  | none =>
    have h1 := List.getElem?_eq_none_iff.1 h
    exact law_end.e1 l i _ (by unfold InI64; omega) (by omega) one

end CLw
end Go.Proofs.YtcgbmnkgmepikaaGreat.Sym


/-
  CRl: what the functions of linkworkref52 return.
-/
namespace Go.Proofs.YtcgbmnkgmepikaaGreat.Sym
open Go Path CInt
set_option linter.unusedVariables false

namespace CRl

theorem Check2 (l : ALaw) (hl : l.pieces.length < 4611686018427387904) (hf : ∀ p ∈ l.pieces, FitP 274877906944 p) : ∀ (j t : Nat), l.pieces.length - t = j → linkworkref52_Check.Loop2 t l (vI (chkP (l.pieces.drop t))) := by
  intro j
  induction j with
  | zero =>
    intro t hj
    rw [List.drop_of_length_le (by omega)]
    exact linkworkref52_Check.l23 t l (by omega)
  | succ j ih =>
    intro t hj
    obtain ⟨v, hv⟩ : ∃ v, l.pieces[t]? = some v := ⟨_, List.getElem?_eq_getElem (by omega)⟩
    have hvf := hf v (List.mem_of_getElem? hv)
    have hc := CRe.Check v hvf
    rw [drop_cons hv, chkP]
    by_cases h0 : chk v = 0
    · rw [decide_eq_false (by simpa using h0), cond_false]
      by_cases h9 : 9 < v.length
      · rw [show Nat.blt 9 v.length = true from by simpa [Nat.blt_eq] using h9, cond_true]
        exact linkworkref52_Check.l21 t l v _ (by omega) hv hc h0 h9
      · rw [show Nat.blt 9 v.length = false from by cases hb : Nat.blt 9 v.length with
          | false => rfl
          | true => exact absurd (by simpa [Nat.blt_eq] using hb) h9, cond_false]
        exact linkworkref52_Check.l22 t l v _ (by omega) hv hc h0 (by omega) (by omega) (ih (t + 1) (by omega))
    · rw [decide_eq_true h0, cond_true]
      exact linkworkref52_Check.l20 t l v _ (by omega) hv hc h0

theorem Check (l : ALaw) (hf : FitW 1073741824 l) : Contract prg 23 [l.pv] (vI (chkLaw l)) := by
  unfold chkLaw
  by_cases h0 : l.breaks.length = 0
  · rw [if_pos (Or.inl h0)]; exact linkworkref52_Check.e0 l h0
  by_cases h1 : l.breaks.length = l.pieces.length
  · rw [if_neg (by intro h; rcases h with h | h <;> omega)]
    by_cases h2 : 16 < l.breaks.length
    · rw [if_pos h2]; exact linkworkref52_Check.e2 l h0 h1 h2
    · rw [if_neg h2]
      have hps : ∀ p ∈ l.pieces, FitP 274877906944 p := fun p hp a ha => ⟨by have := (hf.2 p hp a ha).1; omega, by have := (hf.2 p hp a ha).2; omega⟩
      have loop : ∀ (j t : Nat) (p : Option Rat), l.breaks.length - t = j → t ≤ l.breaks.length → (t = 0 → p = none) → (∀ k v, t = k + 1 → l.breaks[k]? = some v → p = some v.val) → linkworkref52_Check.Loop1 t l (vI (chkR p (l.breaks.drop t) l.pieces)) := by
        intro j
        induction j with
        | zero =>
          intro t p hj ht _ _
          rw [List.drop_of_length_le (by omega), chkR_nil]
          refine linkworkref52_Check.l110 t l (by omega) ?_
          have := Check2 l (by omega) hps _ 0 rfl
          rwa [List.drop_zero] at this
        | succ j ih =>
          intro t p hj ht hp0 hp
          obtain ⟨v, hv⟩ : ∃ v, l.breaks[t]? = some v := ⟨_, List.getElem?_eq_getElem (by omega)⟩
          have hvf := hf.1 v (List.mem_of_getElem? hv)
          have hva := CRb.Valid v ⟨by omega, by omega⟩
          have hsg := CRb.Sign v ⟨by omega, by omega⟩
          have hone := (CRb.Of 1 (by unfold InI64; omega))
          have hcm := CRb.Cmp v (mkR (1 : Int)) ⟨by omega, by omega⟩ ⟨by decide, by decide⟩
          rw [mkR_val, show ((1 : Int) : Rat) = 1 from rfl] at hcm
          rw [drop_cons hv]
          cases hvv : v.valid with
          | false =>
            rw [chkR_stop (chkB_out (outB_inv hvv)) (by omega)]
            exact linkworkref52_Check.l10 t l v _ (by omega) hv hva hvv
          | true =>
            by_cases hs : v.val < 0
            · rw [chkR_stop (chkB_out (outB_lt hs)) (by omega)]
              exact linkworkref52_Check.l11 t l v _ _ (by omega) hv hva hvv hsg (cmpR_lt.2 hs)
            · have hs' : 0 ≤ cmpR v.val 0 := cmpR_ge.2 (by grind)
              by_cases hc : 1 ≤ v.val
              · rw [chkR_stop (chkB_out (outB_ge hc)) (by omega)]
                exact linkworkref52_Check.l12 t l v _ _ _ _ (by omega) hv hva hvv hsg hs' hone hcm (cmpR_ge.2 hc)
              · have ho := outB_no hvv hs hc
                have hc' : cmpR v.val 1 < 0 := cmpR_lt.2 (by grind)
                by_cases ht0 : t = 0
                · have := hp0 ht0
                  subst this
                  by_cases hz : v.val = 0
                  · rw [chkR_cons ho (by unfold badB; exact decide_eq_false (by simpa using hz))]
                    refine linkworkref52_Check.l16 t l v _ _ _ _ _ (by omega) hv hva hvv hsg hs' hone hcm hc' ht0 hsg (cmpR_eq.2 hz) (by omega) (by omega) (ih (t + 1) _ (by omega) (by omega) (by omega) ?_)
                    intro k u hk hu
                    have : k = t := by omega
                    subst this
                    rw [hv] at hu; injection hu with hu; rw [hu]
                  · rw [chkR_stop (chkB_bad ho (by unfold badB; exact decide_eq_true hz)) (by omega)]
                    exact linkworkref52_Check.l13 t l v _ _ _ _ _ (by omega) hv hva hvv hsg hs' hone hcm hc' ht0 hsg (fun e => hz (cmpR_eq.1 e))
                · obtain ⟨k, hk⟩ : ∃ k, t = k + 1 := ⟨t - 1, by omega⟩
                  obtain ⟨u, hu⟩ : ∃ u, l.breaks[k]? = some u := ⟨_, List.getElem?_eq_getElem (by omega)⟩
                  have := hp k u hk hu
                  subst this
                  have huf := hf.1 u (List.mem_of_getElem? hu)
                  have hcu := CRb.Cmp v u ⟨by omega, by omega⟩ ⟨by omega, by omega⟩
                  by_cases hz : v.val ≤ u.val
                  · rw [chkR_stop (chkB_bad ho (by unfold badB; exact decide_eq_true hz)) (by omega)]
                    exact linkworkref52_Check.l17 t l v _ _ _ _ k u _ (by omega) hv hva hvv hsg hs' hone hcm hc' ht0 (by omega) (by unfold InI64; omega) (by omega) hu hcu (cmpR_le.2 hz)
                  · rw [chkR_cons ho (by unfold badB; exact decide_eq_false hz)]
                    refine linkworkref52_Check.l18 t l v _ _ _ _ k u _ (by omega) hv hva hvv hsg hs' hone hcm hc' ht0 (by omega) (by unfold InI64; omega) (by omega) hu hcu (cmpR_gt.2 (by grind)) (by omega) (ih (t + 1) _ (by omega) (by omega) (by omega) ?_)
                    intro k' u' hk' hu'
                    have : k' = t := by omega
                    subst this
                    rw [hv] at hu'; injection hu' with hu'; rw [hu']
      refine linkworkref52_Check.e3 l h0 h1 (by omega) ?_
      have := loop _ 0 none rfl (by omega) (fun _ => rfl) (fun k v h => by omega)
      rwa [List.drop_zero] at this
  · rw [if_pos (Or.inr h1)]; exact linkworkref52_Check.e1 l h0 h1

theorem Frac (x : ARat) (h : x.num.length ≤ 1073741824 ∧ x.den.length ≤ 1073741824) : Contract prg 37 [x.pv] (mkR (frac x.val)).pv := by
  obtain ⟨f1, f2⟩ := h
  have hh := ht_fit (k := 1073741824) f1 f2 (by omega)
  have hfl := CRb.Floor x ⟨by omega, by omega⟩
  have hw := wl_floor x.val
  have hfr := CRb.From (Sym.whole x.val.floor) (Sym.whole 1) (show wl _ ≤ _ by omega) (by decide) (by decide)
  rw [whole_val, show Rat.divInt x.val.floor (Sym.whole 1).val = (x.val.floor : Rat) from by rw [show (Sym.whole 1).val = 1 from rfl, Rat.divInt_eq_div]; grind] at hfr
  have hi := ht_int x.val.floor
  have hs := CRb.Sub x (mkR (x.val.floor : Rat)) ⟨by omega, by omega⟩ (fit_mkR (by omega))
  rw [mkR_val] at hs
  exact linkworkref52_Frac.e0 x _ _ _ _ _ hfl (CRa.Of 1 (by unfold InI64; omega)) hfr hs

theorem Piece (l : ALaw) (x : ARat) (h0 : l.breaks.length ≠ 0) (hl : l.breaks.length ≤ 1073741824) (hf : FitP 1073741824 l.breaks) (hx : x.num.length ≤ 1073741824 ∧ x.den.length ≤ 1073741824) : Contract prg 76 [l.pv, x.pv] (vI (pieceL (vals l.breaks) x.val : Nat)) := by
  have loop : ∀ (j i : Nat), l.breaks.length - i = j → i < l.breaks.length → linkworkref52_Piece.Loop1 i l x (vI ((i + pieceF ((vals l.breaks).drop (i + 1)) x.val : Nat) : Int)) := by
    intro j
    induction j with
    | zero => intro i hj hi; omega
    | succ j ih =>
      intro i hj hi
      by_cases hn : i + 1 < l.breaks.length
      · obtain ⟨v, hv⟩ : ∃ v, l.breaks[i + 1]? = some v := ⟨_, List.getElem?_eq_getElem (by omega)⟩
        have hvf := hf v (List.mem_of_getElem? hv)
        have hc := CRb.Cmp v x ⟨by omega, by omega⟩ ⟨by omega, by omega⟩
        rw [vals_drop hv, pieceF]
        by_cases hle : v.val ≤ x.val
        · rw [decide_eq_true hle, cond_true, show i + (pieceF ((vals l.breaks).drop (i + 1 + 1)) x.val + 1) = (i + 1) + pieceF ((vals l.breaks).drop (i + 1 + 1)) x.val from by omega]
          refine linkworkref52_Piece.l10 i l x v _ (by omega) hn hv hc (cmpR_le.2 (by grind)) (ih (i + 1) (by omega) hn)
        · rw [decide_eq_false hle, cond_false]
          exact linkworkref52_Piece.l11 i l x v _ (by omega) hn hv hc (cmpR_gt.2 (by grind))
      · rw [List.drop_of_length_le (by unfold vals; rw [List.length_map]; omega)]
        exact linkworkref52_Piece.l12 i l x (by omega) (by omega)
  have := loop _ 0 rfl (by omega)
  rw [Nat.zero_add] at this
  exact linkworkref52_Piece.e0 l x this

theorem At (l : ALaw) (x : ARat) (g : Good l) (hf : FitW 1048576 l) (hx : x.num.length ≤ 1048576 ∧ x.den.length ≤ 1048576) : Contract prg 30 [l.pv, x.pv] (mkR (atW l x.val)).pv := by
  have hw := Frac x ⟨by omega, by omega⟩
  obtain ⟨f1, f2⟩ := hx
  have hh := ht_fit (k := 1048576) f1 f2 (by omega)
  have hfr := ht_frac hh
  have hxf := fit_mkRk (k := 2097154) (q := frac x.val) (by omega)
  have hn0 := g.n0
  have hlen := g.len
  have hle := g.le
  have hlen2 : (vals l.breaks).length = l.breaks.length := by unfold vals; rw [List.length_map]
  have hlt := pieceL_lt (bs := vals l.breaks) (by omega) (frac x.val)
  obtain ⟨v, hv⟩ : ∃ v, l.breaks[pieceL (vals l.breaks) (frac x.val)]? = some v := ⟨_, List.getElem?_eq_getElem (by omega)⟩
  obtain ⟨p, hp⟩ : ∃ p, l.pieces[pieceL (vals l.breaks) (frac x.val)]? = some p := ⟨_, List.getElem?_eq_getElem (by omega)⟩
  have hvf := hf.1 v (List.mem_of_getElem? hv)
  have hpf := hf.2 p (List.mem_of_getElem? hp)
  have hvh := ht_fit hvf.1 hvf.2 (by omega)
  obtain ⟨hpc, hpl⟩ := g.ps p (List.mem_of_getElem? hp)
  have hsub := CRb.Sub (mkR (frac x.val)) v ⟨by omega, by omega⟩ ⟨by omega, by omega⟩
  rw [mkR_val] at hsub
  have hsf := fit_mkRk (k := 1073741824) (q := frac x.val - v.val) (by have := ht_sub (frac x.val) v.val; omega)
  have e : atW l x.val = evalL (vals p) (frac x.val - v.val) := by unfold atW; rw [List.getD_eq_getElem?_getD, List.getD_eq_getElem?_getD, hv, hp]; rfl
  rw [e]
  have hpi := Piece l (mkR (frac x.val)) hn0 (by omega) (fun a ha => ⟨by have := (hf.1 a ha).1; omega, by have := (hf.1 a ha).2; omega⟩) ⟨by omega, by omega⟩
  rw [mkR_val] at hpi
  have hev := CRe.At p (mkR (frac x.val - v.val)) (by omega) (fun a ha => ⟨by have := (hpf a ha).1; omega, by have := (hpf a ha).2; omega⟩) hsf
  rw [mkR_val] at hev
  exact linkworkref52_At.e0 l x _ _ _ p _ v _ _ hw hpi rfl hp rfl hv hsub hev

theorem End (l : ALaw) (i : Nat) (hl : l.breaks.length ≤ 1073741824) (hi : i < l.breaks.length) (hv : l.breaks.all ARat.valid = true) : Contract prg 97 [l.pv, vI (i : Int)] (mkR (endW l i)).pv := by
  unfold endW
  cases h : l.breaks[i + 1]? with
  | some v =>
    have h1 := (List.getElem?_eq_some_iff.1 h).1
    show Contract prg _ _ (mkR v.val).pv
    rw [mkR_of (List.all_eq_true.1 hv v (List.mem_of_getElem? h))]
    exact linkworkref52_End.e0 l i (i + 1) v (by unfold InI64; omega) (by omega) (by omega) h
  | none =>
    have h1 := List.getElem?_eq_none_iff.1 h
    exact linkworkref52_End.e1 l i _ (by unfold InI64; omega) (by omega) (CRb.Of 1 (by unfold InI64; omega))

end CRl
end Go.Proofs.YtcgbmnkgmepikaaGreat.Sym


/-
  CLw2: law and its reference: Rise, and what the program says about dwells.
-/
namespace Go.Proofs.YtcgbmnkgmepikaaGreat.Sym
open Go Path CInt
set_option linter.unusedVariables false

theorem ht_of_i64 {n : Int} (h : InI64 n) : ht (n : Rat) ≤ 2 := by
  rw [ht_int]
  have : wl n ≤ 2 := wl_le (by unfold InI64 at h; omega)
  omega

theorem cmpR_one {p : Rat} : cmpR p ((1 : Int) : Rat) = cmpR p 1 := rfl

namespace CLw

/-- The coefficients from the second one on. -/
theorem Rise1 (cs : List Int) (s u : Rat) (x : ARat) (hs : ht s ≤ 1024) (hu : ht u ≤ 1024) (hcs : ∀ n ∈ cs, InI64 n) (hl : cs.length ≤ 100) : ∀ (j t : Nat) (site : List ARat) (w : Rat), cs.length - t = j → 1 ≤ t → t ≤ cs.length → site.length = t → ht w ≤ 1024 * (t + 1) → Fl 1048576 (vals site) → FitP 1048576 site →
    law_Rise.Loop1 site cs cs.length t x (mkR s) (mkR u) (mkR w) (.tup [polyPV ((trimL (vals site ++ riseG s u w (cs.drop t))).map mkR), .nilI]) := by
  intro j
  induction j with
  | zero =>
    intro t site w hj h1 htt hsl hw hfl hfit
    rw [List.drop_of_length_le (by omega), riseG, List.append_nil]
    exact law_Rise.l12 site cs _ t x _ _ _ _ (by omega) (CPo.Trim site (by omega) (fun a ha => ⟨by have := (hfit a ha).1; omega, by have := (hfit a ha).2; omega⟩))
  | succ j ih =>
    intro t site w hj h1 htt hsl hw hfl hfit
    obtain ⟨n, hn⟩ : ∃ n, cs[t]? = some n := ⟨_, List.getElem?_eq_getElem (by omega)⟩
    have hni := hcs n (List.mem_of_getElem? hn)
    have hof := CFr.Of n hni
    have hn2 := ht_of_i64 hni
    have m1 := CFr.Mul (mkR (n : Rat)) (mkR w) (fit_mkR (by omega)) (fit_mkR (by omega))
    rw [mkR_val, mkR_val] at m1
    have b1 := ht_mul (n : Rat) w
    have m2 := CFr.Mul (mkR s) (mkR ((n : Rat) * w)) (fit_mkR (by omega)) (fit_mkR (by omega))
    rw [mkR_val, mkR_val] at m2
    have b2 := ht_mul s ((n : Rat) * w)
    have m3 := CFr.Mul (mkR w) (mkR u) (fit_mkR (by omega)) (fit_mkR (by omega))
    rw [mkR_val, mkR_val] at m3
    have b3 := ht_mul w u
    have hb : ht (s * ((n : Rat) * w)) ≤ 1048576 := by omega
    have := ih (t + 1) (site ++ [mkR (s * ((n : Rat) * w))]) (w * u) (by omega) (by omega) (by omega) (by simp; omega) (by omega) (by
      unfold vals; rw [List.map_append]
      intro y hy
      rcases List.mem_append.1 hy with hy | hy
      · exact hfl y hy
      · have : y = s * ((n : Rat) * w) := by simpa [mkR_val] using hy
        rw [this]; exact hb) (by
      intro a ha
      rcases List.mem_append.1 ha with ha | ha
      · exact hfit a ha
      · have : a = mkR (s * ((n : Rat) * w)) := by simpa using ha
        rw [this]; exact fit_mkRk hb)
    have e : vals (site ++ [mkR (s * ((n : Rat) * w))]) = vals site ++ [s * ((n : Rat) * w)] := by
      unfold vals; rw [List.map_append]; simp [mkR_val]
    rw [e, List.append_assoc] at this
    rw [drop_cons hn, riseG]
    exact law_Rise.l11 site cs _ t x _ _ _ n _ _ _ _ (by omega) (by omega) hn hof m1 m2 (by omega) (by simp; omega) m3 (by omega) this

theorem Rise (len x y : ARat) (degree : Int) (h1 : len.num.length ≤ 4 ∧ len.den.length ≤ 4) (h2 : x.num.length ≤ 4 ∧ x.den.length ≤ 4) (h3 : y.num.length ≤ 4 ∧ y.den.length ≤ 4) (hc : riseC len x y degree = 0) :
    Contract prg 12 [len.pv, x.pv, y.pv, vI degree] (.tup [polyPV ((riseL len.val x.val y.val degree).map mkR), .nilI]) := by
  unfold riseC at hc
  cases hb : (!len.valid || (decide (len.val ≤ 0) || (!x.valid || !y.valid))) with
  | true => rw [hb] at hc; cases hc
  | false =>
    rw [hb, cond_false] at hc
    simp only [Bool.or_eq_false_iff, Bool.not_eq_false', decide_eq_false_iff_not] at hb
    obtain ⟨v1, v2, v3, v4⟩ := hb
    have c1 := CFr.Valid len ⟨by omega, by omega⟩
    have c2 := CFr.Sign len ⟨by omega, by omega⟩
    have c3 := CFr.Valid x ⟨by omega, by omega⟩
    have c4 := CFr.Valid y ⟨by omega, by omega⟩
    have hp : 0 < cmpR len.val 0 := cmpR_gt.2 (by grind)
    have a1 := ht_fit h1.1 h1.2 (by omega)
    have a2 := ht_fit h2.1 h2.2 (by omega)
    have a3 := ht_fit h3.1 h3.2 (by omega)
    have c5 := CFr.Sub y x ⟨by omega, by omega⟩ ⟨by omega, by omega⟩
    have b1 := ht_sub y.val x.val
    have c6 := CLw.one
    have hone : ht ((1 : Int) : Rat) = 1 := by decide
    have c7 := CFr.Div (mkR ((1 : Int) : Rat)) len (fit_mkR (by omega)) ⟨by omega, by omega⟩ (by grind)
    rw [mkR_val] at c7
    have b2 := ht_div ((1 : Int) : Rat) len.val
    have eone : ((1 : Int) : Rat) = 1 := rfl
    -- the first step
    have first : ∀ cs : List Int, cs[0]? = some 0 → (∀ n ∈ cs, InI64 n) → cs.length ≤ 100 → law_Rise.Loop1 [] cs cs.length 0 x (mkR (y.val - x.val)) (mkR (((1 : Int) : Rat) / len.val)) (mkR ((1 : Int) : Rat)) (.tup [polyPV ((trimL (x.val :: riseG (y.val - x.val) (1 / len.val) (1 / len.val) (cs.drop 1))).map mkR), .nilI]) := by
      intro cs h0 hcs hl
      have hpos := (List.getElem?_eq_some_iff.1 h0).1
      have hof := CFr.Of 0 (by unfold InI64; omega)
      have z0 : ht ((0 : Int) : Rat) = 1 := by decide
      have m1 := CFr.Mul (mkR ((0 : Int) : Rat)) (mkR ((1 : Int) : Rat)) (fit_mkR (by omega)) (fit_mkR (by omega))
      rw [mkR_val, mkR_val] at m1
      have d1 := ht_mul ((0 : Int) : Rat) ((1 : Int) : Rat)
      have m2 := CFr.Mul (mkR (y.val - x.val)) (mkR (((0 : Int) : Rat) * ((1 : Int) : Rat))) (fit_mkR (by omega)) (fit_mkR (by omega))
      have m3 := CFr.Mul (mkR ((1 : Int) : Rat)) (mkR (((1 : Int) : Rat) / len.val)) (fit_mkR (by omega)) (fit_mkR (by omega))
      rw [mkR_val, mkR_val] at m3
      have e : ((1 : Int) : Rat) * (((1 : Int) : Rat) / len.val) = ((1 : Int) : Rat) / len.val := by rw [eone, Rat.one_mul]
      rw [e] at m3
      have := Rise1 cs (y.val - x.val) (((1 : Int) : Rat) / len.val) x (by omega) (by omega) hcs hl _ 1 [x] (((1 : Int) : Rat) / len.val) rfl (by omega) (by omega) rfl (by omega) (by
        intro q hq
        have : q = x.val := by simpa [vals] using hq
        rw [this]; omega) (by
        intro a ha
        have : a = x := by simpa using ha
        rw [this]; exact ⟨by omega, by omega⟩)
      exact law_Rise.l10 [] cs _ 0 x _ _ _ 0 _ _ _ _ (by omega) hpos h0 hof m1 m2 rfl (by simp) m3 (by omega) this
    unfold riseL riseN
    by_cases d1 : degree = 1
    · rw [if_pos d1]
      exact law_Rise.e4 len x y degree _ _ _ _ _ _ _ _ c1 v1 c2 hp c3 v3 c4 v4 d1 c5 c6 c7 c6 (first [0, 1] rfl (by unfold InI64; decide) (by decide))
    · rw [if_neg d1]
      by_cases d3 : degree = 3
      · rw [if_pos d3]
        exact law_Rise.e6 len x y degree _ _ _ _ _ _ _ _ c1 v1 c2 hp c3 v3 c4 v4 d1 d3 c5 c6 c7 c6 (first [0, 0, 3, -2] rfl (by unfold InI64; decide) (by decide))
      · rw [if_neg d3]
        have d5 : degree = 5 := by
          refine Classical.byContradiction fun h => ?_
          rw [if_neg (by omega)] at hc; cases hc
        exact law_Rise.e8 len x y degree _ _ _ _ _ _ _ _ c1 v1 c2 hp c3 v3 c4 v4 d1 d3 d5 c5 c6 c7 c6 (first [0, 0, 0, 10, -15, 6] rfl (by unfold InI64; decide) (by decide))

theorem RiseE (len x y : ARat) (degree : Int) (h1 : len.num.length ≤ 4 ∧ len.den.length ≤ 4) (h2 : x.num.length ≤ 4 ∧ x.den.length ≤ 4) (h3 : y.num.length ≤ 4 ∧ y.den.length ≤ 4) (hc : riseC len x y degree ≠ 0) :
    Contract prg 12 [len.pv, x.pv, y.pv, vI degree] (.tup [polyPV [], errPV (some (riseC len x y degree))]) := by
  have c1 := CFr.Valid len ⟨by omega, by omega⟩
  have c2 := CFr.Sign len ⟨by omega, by omega⟩
  have c3 := CFr.Valid x ⟨by omega, by omega⟩
  have c4 := CFr.Valid y ⟨by omega, by omega⟩
  unfold riseC at hc ⊢
  cases v1 : len.valid with
  | false => exact law_Rise.e0 len x y degree _ c1 v1
  | true =>
    by_cases v2 : len.val ≤ 0
    · rw [decide_eq_true v2]
      exact law_Rise.e1 len x y degree _ _ c1 v1 c2 (cmpR_le.2 v2)
    · rw [decide_eq_false v2]
      have hp : 0 < cmpR len.val 0 := cmpR_gt.2 (by grind)
      cases v3 : x.valid with
      | false => exact law_Rise.e2 len x y degree _ _ _ c1 v1 c2 hp c3 v3
      | true =>
        cases v4 : y.valid with
        | false => exact law_Rise.e3 len x y degree _ _ _ _ c1 v1 c2 hp c3 v3 c4 v4
        | true =>
          rw [v1, decide_eq_false v2, v3, v4] at hc
          simp only [Bool.not_true, Bool.or_self, cond_false] at hc ⊢
          by_cases hd : degree = 1 ∨ degree = 3 ∨ degree = 5
          · rw [if_pos hd] at hc; exact absurd rfl hc
          · rw [if_neg hd]
            exact law_Rise.e10 len x y degree _ _ _ _ c1 v1 c2 hp c3 v3 c4 v4 (by omega) (by omega) (by omega)

end CLw

namespace CRl

theorem Rise1 (cs : List Int) (len x : ARat) (hlen : len.num.length ≤ 4 ∧ len.den.length ≤ 4) (h0 : len.val ≠ 0) (hx : x.num.length ≤ 4 ∧ x.den.length ≤ 4) (hcs : ∀ n ∈ cs, InI64 n) (hl : cs.length ≤ 100) (hl0 : 0 < cs.length) : ∀ (j t : Nat) (site : List ARat) (s : Rat), cs.length - t = j → t ≤ cs.length → site.length = t → ht s ≤ 1024 * (t + 1) → FitP 1048576 site →
    linkworkref52_Rise.Loop1 cs site t len x (mkR s) (.tup [polyPV ((trimL ((vals site ++ riseH len.val s (cs.drop t)).set 0 x.val)).map mkR), vI 0]) := by
  intro j
  have a1 := ht_fit hlen.1 hlen.2 (by omega)
  induction j with
  | zero =>
    intro t site s hj htt hsl hs hfit
    rw [List.drop_of_length_le (by omega), riseH, List.append_nil]
    have hfit' : FitP 274877906944 (site.set 0 x) := by
      intro a ha
      rcases List.mem_or_eq_of_mem_set ha with ha | ha
      · exact ⟨by have := (hfit a ha).1; omega, by have := (hfit a ha).2; omega⟩
      · rw [ha]; exact ⟨by omega, by omega⟩
    have ht := CRe.Trim (site.set 0 x) (by simp; omega) hfit'
    rw [show vals (site.set 0 x) = (vals site).set 0 x.val from by unfold vals; rw [List.map_set]] at ht
    exact linkworkref52_Rise.l11 cs site t len x _ _ (by omega) (by omega) (by simp) ht
  | succ j ih =>
    intro t site s hj htt hsl hs hfit
    obtain ⟨n, hn⟩ : ∃ n, cs[t]? = some n := ⟨_, List.getElem?_eq_getElem (by omega)⟩
    have hni := hcs n (List.mem_of_getElem? hn)
    have hof := CRb.Of n hni
    have hn2 := ht_of_i64 hni
    have m1 := CRb.Mul (mkR s) (mkR (n : Rat)) (fit_mkR (by omega)) (fit_mkR (by omega))
    rw [mkR_val, mkR_val] at m1
    have b1 := ht_mul s (n : Rat)
    have d := CRb.Div (mkR s) len (fit_mkR (by omega)) ⟨by omega, by omega⟩ h0
    rw [mkR_val] at d
    have b2 := ht_div s len.val
    have hb : ht (s * (n : Rat)) ≤ 1048576 := by omega
    have := ih (t + 1) (site ++ [mkR (s * (n : Rat))]) (s / len.val) (by omega) (by omega) (by simp; omega) (by omega) (by
      intro a ha
      rcases List.mem_append.1 ha with ha | ha
      · exact hfit a ha
      · have : a = mkR (s * (n : Rat)) := by simpa using ha
        rw [this]; exact fit_mkRk hb)
    have e : vals (site ++ [mkR (s * (n : Rat))]) = vals site ++ [s * (n : Rat)] := by
      unfold vals; rw [List.map_append]; simp [mkR_val]
    rw [e, List.append_assoc] at this
    rw [drop_cons hn, riseH]
    exact linkworkref52_Rise.l10 cs site t len x _ n _ _ _ _ (by omega) hn hof m1 (by simp; omega) d (by omega) this

theorem Rise (len x y : ARat) (degree : Int) (h1 : len.num.length ≤ 4 ∧ len.den.length ≤ 4) (h2 : x.num.length ≤ 4 ∧ x.den.length ≤ 4) (h3 : y.num.length ≤ 4 ∧ y.den.length ≤ 4) (hc : riseC len x y degree = 0) :
    Contract prg 13 [len.pv, x.pv, y.pv, vI degree] (.tup [polyPV ((riseL len.val x.val y.val degree).map mkR), vI 0]) := by
  unfold riseC at hc
  cases hb : (!len.valid || (decide (len.val ≤ 0) || (!x.valid || !y.valid))) with
  | true => rw [hb] at hc; cases hc
  | false =>
    rw [hb, cond_false] at hc
    simp only [Bool.or_eq_false_iff, Bool.not_eq_false', decide_eq_false_iff_not] at hb
    obtain ⟨v1, v2, v3, v4⟩ := hb
    have c1 := CRb.Valid len ⟨by omega, by omega⟩
    have c2 := CRb.Sign len ⟨by omega, by omega⟩
    have c3 := CRb.Valid x ⟨by omega, by omega⟩
    have c4 := CRb.Valid y ⟨by omega, by omega⟩
    have hp : 0 < cmpR len.val 0 := cmpR_gt.2 (by grind)
    have a1 := ht_fit h1.1 h1.2 (by omega)
    have a2 := ht_fit h2.1 h2.2 (by omega)
    have a3 := ht_fit h3.1 h3.2 (by omega)
    have c5 := CRb.Sub y x ⟨by omega, by omega⟩ ⟨by omega, by omega⟩
    have b1 := ht_sub y.val x.val
    have first : ∀ cs : List Int, 0 < cs.length → (∀ n ∈ cs, InI64 n) → cs.length ≤ 100 → linkworkref52_Rise.Loop1 cs [] 0 len x (mkR (y.val - x.val)) (.tup [polyPV ((trimL ((riseH len.val (y.val - x.val) cs).set 0 x.val)).map mkR), vI 0]) := by
      intro cs h0 hcs hl
      exact Rise1 cs len x h1 (by grind) h2 hcs hl h0 _ 0 [] _ rfl (by omega) rfl (by omega) (fun a ha => by cases ha)
    unfold riseL
    rw [rise_same]
    unfold riseN
    by_cases d1 : degree = 1
    · rw [if_pos d1]
      exact linkworkref52_Rise.e4 len x y degree _ _ _ _ _ c1 v1 c2 hp c3 v3 c4 v4 d1 c5 (first [0, 1] (by decide) (by unfold InI64; decide) (by decide))
    · rw [if_neg d1]
      by_cases d3 : degree = 3
      · rw [if_pos d3]
        exact linkworkref52_Rise.e5 len x y degree _ _ _ _ _ c1 v1 c2 hp c3 v3 c4 v4 d1 d3 c5 (first [0, 0, 3, -2] (by decide) (by unfold InI64; decide) (by decide))
      · rw [if_neg d3]
        have d5 : degree = 5 := by
          refine Classical.byContradiction fun h => ?_
          rw [if_neg (by omega)] at hc; cases hc
        exact linkworkref52_Rise.e6 len x y degree _ _ _ _ _ c1 v1 c2 hp c3 v3 c4 v4 d1 d3 d5 c5 (first [0, 0, 0, 10, -15, 6] (by decide) (by unfold InI64; decide) (by decide))

theorem RiseE (len x y : ARat) (degree : Int) (h1 : len.num.length ≤ 4 ∧ len.den.length ≤ 4) (h2 : x.num.length ≤ 4 ∧ x.den.length ≤ 4) (h3 : y.num.length ≤ 4 ∧ y.den.length ≤ 4) (hc : riseC len x y degree ≠ 0) :
    Contract prg 13 [len.pv, x.pv, y.pv, vI degree] (.tup [polyPV [], vI (riseC len x y degree)]) := by
  have c1 := CRb.Valid len ⟨by omega, by omega⟩
  have c2 := CRb.Sign len ⟨by omega, by omega⟩
  have c3 := CRb.Valid x ⟨by omega, by omega⟩
  have c4 := CRb.Valid y ⟨by omega, by omega⟩
  unfold riseC at hc ⊢
  cases v1 : len.valid with
  | false => exact linkworkref52_Rise.e0 len x y degree _ c1 v1
  | true =>
    by_cases v2 : len.val ≤ 0
    · rw [decide_eq_true v2]
      exact linkworkref52_Rise.e1 len x y degree _ _ c1 v1 c2 (cmpR_le.2 v2)
    · rw [decide_eq_false v2]
      have hp : 0 < cmpR len.val 0 := cmpR_gt.2 (by grind)
      cases v3 : x.valid with
      | false => exact linkworkref52_Rise.e2 len x y degree _ _ _ c1 v1 c2 hp c3 v3
      | true =>
        cases v4 : y.valid with
        | false => exact linkworkref52_Rise.e3 len x y degree _ _ _ _ c1 v1 c2 hp c3 v3 c4 v4
        | true =>
          rw [v1, decide_eq_false v2, v3, v4] at hc
          simp only [Bool.not_true, Bool.or_self, cond_false] at hc ⊢
          by_cases hd : degree = 1 ∨ degree = 3 ∨ degree = 5
          · rw [if_pos hd] at hc; exact absurd rfl hc
          · rw [if_neg hd]
            exact linkworkref52_Rise.e7 len x y degree _ _ _ _ c1 v1 c2 hp c3 v3 c4 v4 (by omega) (by omega) (by omega)

end CRl
end Go.Proofs.YtcgbmnkgmepikaaGreat.Sym


/-
  Pol2: more of polynomials: trimmed lists, values and derivatives.
-/
namespace Go.Proofs.YtcgbmnkgmepikaaGreat.Sym
open Go Path CInt
set_option linter.unusedVariables false

theorem trimL_cons (a : Rat) (r : List Rat) : trimL (a :: r) = bif (trimL r).isEmpty && decide (a = 0) then [] else a :: trimL r := rfl

/-- A list that is trimmed: it is nothing or it goes on. -/
theorem trimL_cases (a : Rat) (r : List Rat) : (trimL r = [] ∧ a = 0 ∧ trimL (a :: r) = []) ∨ trimL (a :: r) = a :: trimL r := by
  rw [trimL_cons]
  cases h : (trimL r).isEmpty && decide (a = 0) with
  | false => exact Or.inr rfl
  | true =>
    rw [Bool.and_eq_true] at h
    exact Or.inl ⟨List.isEmpty_iff.1 h.1, of_decide_eq_true h.2, rfl⟩

theorem mem_trimL : ∀ {q : List Rat} {y : Rat}, y ∈ trimL q → y ∈ q
  | [], y, h => h
  | a :: r, y, h => by
    rcases trimL_cases a r with ⟨_, _, e⟩ | e
    · rw [e] at h; cases h
    · rw [e] at h
      rcases List.mem_cons.1 h with h | h
      · rw [h]; exact List.mem_cons_self ..
      · exact List.mem_cons_of_mem _ (mem_trimL h)

theorem len_trimL : ∀ q : List Rat, (trimL q).length ≤ q.length
  | [] => by simp [trimL]
  | a :: r => by
    rcases trimL_cases a r with ⟨_, _, e⟩ | e
    · rw [e]; simp
    · rw [e]; simpa using len_trimL r

theorem fl_trimL {k : Nat} {q : List Rat} (h : Fl k q) : Fl k (trimL q) := fun x hx => h x (mem_trimL hx)

theorem lastZ_trimL : ∀ q : List Rat, lastZ (trimL q) = false
  | [] => rfl
  | a :: r => by
    have ih := lastZ_trimL r
    rw [trimL_cons]
    cases h : trimL r with
    | nil =>
      by_cases h0 : a = 0
      · rw [decide_eq_true h0]; rfl
      · rw [decide_eq_false h0]
        unfold lastZ
        exact decide_eq_false h0
    | cons b s =>
      rw [h] at ih
      unfold lastZ at ih ⊢
      rw [show (bif (b :: s).isEmpty && decide (a = 0) then [] else a :: b :: s) = a :: b :: s from rfl]
      rw [List.getLast?_cons_cons]
      exact ih

theorem trimL_of : ∀ {q : List Rat}, lastZ q = false → trimL q = q
  | [], _ => rfl
  | [a], h => by
    unfold lastZ at h
    have h : ¬ a = 0 := of_decide_eq_false h
    rw [trimL_cons, decide_eq_false h]; rfl
  | a :: b :: s, h => by
    unfold lastZ at h
    rw [List.getLast?_cons_cons] at h
    have := trimL_of (q := b :: s) h
    rw [trimL_cons, this]; rfl

theorem trimL_idem (q : List Rat) : trimL (trimL q) = trimL q := trimL_of (lastZ_trimL q)

theorem chk_map {q : List Rat} (h : lastZ q = false) (hl : q.length ≤ 65) : chk (q.map mkR) = 0 := by
  unfold chk
  rw [if_neg (by rw [List.length_map]; omega), vals_mkR, h]
  rw [show (q.map mkR).all ARat.valid = true from by
    rw [List.all_eq_true]
    intro a ha
    obtain ⟨x, _, rfl⟩ := List.mem_map.1 ha
    exact mkR_valid x]
  rfl

theorem chk_trimL {q : List Rat} (hl : q.length ≤ 65) : chk ((trimL q).map mkR) = 0 := chk_map (lastZ_trimL q) (Nat.le_trans (len_trimL q) hl)

theorem evalL_trimL (x : Rat) : ∀ q : List Rat, evalL (trimL q) x = evalL q x
  | [] => rfl
  | a :: r => by
    have ih := evalL_trimL x r
    rcases trimL_cases a r with ⟨h1, h2, e⟩ | e
    · rw [e, evalL, evalL, ← ih, h1, h2, evalL]; grind
    · rw [e, evalL, evalL, ih]

theorem trimL_drop (q : List Rat) : (trimL q).drop 1 = trimL (q.drop 1) := by
  cases q with
  | nil => rfl
  | cons a r =>
    rcases trimL_cases a r with ⟨h1, h2, e⟩ | e
    · rw [e]; exact h1.symm
    · rw [e]; rfl

theorem trimL_derI : ∀ (q : List Rat) (i : Nat), trimL (derI i (trimL q)) = trimL (derI i q)
  | [], _ => rfl
  | a :: r, i => by
    have ih := trimL_derI r (i + 1)
    rcases trimL_cases a r with ⟨h1, h2, e⟩ | e
    · rw [e, derI, derI, trimL_cons, ← ih, h1, h2]
      rw [show ((i : Int) : Rat) * 0 = 0 from by grind]; rfl
    · rw [e, derI, derI, trimL_cons, trimL_cons, ih]

theorem deriveL_trimL (q : List Rat) : deriveL (trimL q) = deriveL q := by
  unfold deriveL
  rw [trimL_drop, trimL_derI]

theorem evalL_deriveL (q : List Rat) (x : Rat) : evalL (deriveL q) x = evalL (derI 1 (q.drop 1)) x := by
  unfold deriveL
  rw [evalL_trimL]

theorem fl_derI2 {k : Nat} : ∀ (q : List Rat) (i : Nat), i + q.length ≤ 18446744073709551615 → Fl k q → Fl (k + 2) (derI i q)
  | [], _, _, _ => fun x hx => by cases hx
  | a :: r, i, hi, h => by
    intro x hx
    rw [List.length_cons] at hi
    rcases List.mem_cons.1 hx with e | hx
    · rw [e]
      have h1 := ht_mul ((i : Int) : Rat) a
      have h2 := h a (List.mem_cons_self ..)
      have h3 : ht ((i : Int) : Rat) ≤ 2 := by
        rw [ht_int]
        have : wl (i : Int) ≤ 2 := wl_le (by omega)
        omega
      omega
    · exact fl_derI2 r (i + 1) (by omega) (fun y hy => h y (List.mem_cons_of_mem _ hy)) x hx

theorem fl_deriveL {k : Nat} {q : List Rat} (hl : q.length ≤ 65) (h : Fl k q) : Fl (k + 2) (deriveL q) :=
  fl_trimL (fl_derI2 _ 1 (by rw [List.length_drop]; omega) (fun y hy => h y (List.mem_of_mem_drop hy)))

theorem len_deriveL (q : List Rat) : (deriveL q).length ≤ q.length := by
  unfold deriveL
  have := len_trimL (derI 1 (q.drop 1))
  rw [derI_len, List.length_drop] at this
  omega

theorem lastZ_deriveL (q : List Rat) : lastZ (deriveL q) = false := lastZ_trimL _

theorem fl_riseG (s u : Rat) (hs : ht s ≤ 1024) (hu : ht u ≤ 1024) : ∀ (cs : List Int) (t : Nat) (w : Rat), (∀ n ∈ cs, InI64 n) → t + cs.length ≤ 100 → ht w ≤ 1024 * (t + 1) → Fl 1048576 (riseG s u w cs)
  | [], _, _, _, _, _ => fun x hx => by cases hx
  | n :: r, t, w, hcs, hl, hw => by
    rw [List.length_cons] at hl
    intro x hx
    have hn2 : ht (n : Rat) ≤ 2 := by
      have := hcs n (List.mem_cons_self ..)
      rw [ht_int]
      have : wl n ≤ 2 := wl_le (by unfold InI64 at this; omega)
      omega
    rcases List.mem_cons.1 hx with e | hx
    · rw [e]
      have h1 := ht_mul (n : Rat) w
      have h2 := ht_mul s ((n : Rat) * w)
      omega
    · have h3 := ht_mul w u
      exact fl_riseG s u hs hu r (t + 1) (w * u) (fun m hm => hcs m (List.mem_cons_of_mem _ hm)) (by omega) (by omega) x hx

/-- The coefficients of a rise before they are trimmed. -/
def riseQ (len x y : Rat) (degree : Int) : List Rat := x :: riseG (y - x) (1 / len) (1 / len) ((riseN degree).drop 1)

theorem riseQ_len (len x y : Rat) (degree : Int) : (riseQ len x y degree).length ≤ 6 := by
  unfold riseQ riseN
  split
  · simp [riseG]
  · split <;> simp [riseG]

theorem fl_riseQ {len x y : Rat} {degree : Int} (h1 : ht len ≤ 4) (h2 : ht x ≤ 4) (h3 : ht y ≤ 4) : Fl 1048576 (riseQ len x y degree) := by
  intro q hq
  rcases List.mem_cons.1 hq with e | hq
  · rw [e]; omega
  · have b1 := ht_sub y x
    have b2 := ht_div 1 len
    have b3 : ht 1 = 1 := by decide
    have hc : ∀ n ∈ riseN degree, InI64 n := by
      unfold riseN InI64
      split
      · decide
      · split <;> decide
    have hl : (riseN degree).length ≤ 6 := by
      unfold riseN
      split
      · decide
      · split <;> decide
    exact fl_riseG _ _ (by omega) (by omega) _ 0 _ (fun n hn => hc n (List.mem_of_mem_drop hn)) (by rw [List.length_drop]; omega) (by omega) q hq

theorem riseQ_zero (len x y : Rat) (degree : Int) : evalL (riseQ len x y degree) 0 = x := by
  unfold riseQ
  rw [evalL]; grind

theorem rise_unit {len : Rat} (h : 0 < len) : 1 / len * len = 1 := by
  have h0 : len ≠ 0 := by grind
  rw [Rat.div_def, Rat.one_mul]
  exact Rat.inv_mul_cancel len h0

theorem riseQ_end (len x y : Rat) (degree : Int) (h : 0 < len) : evalL (riseQ len x y degree) len = y := by
  have hu := rise_unit h
  generalize 1 / len = u at hu
  unfold riseQ riseN
  rw [show (1 / len : Rat) = u from by grind]
  split
  · simp only [List.drop, riseG, evalL]; grind
  · split
    · simp only [List.drop, riseG, evalL]; grind
    · simp only [List.drop, riseG, evalL]; grind

theorem rise3_d (len x y : Rat) (h : 0 < len) : evalL (derI 1 ((riseQ len x y 3).drop 1)) 0 = 0 ∧ evalL (derI 1 ((riseQ len x y 3).drop 1)) len = 0 := by
  have hu := rise_unit h
  unfold riseQ riseN
  generalize 1 / len = u at hu ⊢
  simp only [if_neg (show ¬ (3 : Int) = 1 by decide), if_true, List.drop, riseG, derI, evalL]
  constructor <;> grind

theorem rise5_d (len x y : Rat) (h : 0 < len) : evalL (derI 1 ((riseQ len x y 5).drop 1)) 0 = 0 ∧ evalL (derI 1 ((riseQ len x y 5).drop 1)) len = 0 := by
  have hu := rise_unit h
  unfold riseQ riseN
  generalize 1 / len = u at hu ⊢
  simp only [if_neg (show ¬ (5 : Int) = 1 by decide), if_neg (show ¬ (5 : Int) = 3 by decide), List.drop, riseG, derI, evalL]
  constructor <;> grind

theorem rise5_dd (len x y : Rat) (h : 0 < len) : evalL (derI 1 ((derI 1 ((riseQ len x y 5).drop 1)).drop 1)) 0 = 0 ∧ evalL (derI 1 ((derI 1 ((riseQ len x y 5).drop 1)).drop 1)) len = 0 := by
  have hu := rise_unit h
  unfold riseQ riseN
  generalize 1 / len = u at hu ⊢
  simp only [if_neg (show ¬ (5 : Int) = 1 by decide), if_neg (show ¬ (5 : Int) = 3 by decide), List.drop, riseG, derI, evalL]
  constructor <;> grind

end Go.Proofs.YtcgbmnkgmepikaaGreat.Sym


/-
  PAw52: paths through functions (printed by a program of ours, wip/gen/gen2.py).
-/
namespace Go.Proofs.YtcgbmnkgmepikaaGreat.Sym.Path
open Go
set_option maxRecDepth 20000
set_option linter.unusedVariables false

namespace linkworklaw52_part
@[reducible] noncomputable def fn : Func := Tryz.f48
theorem e0 (n d : Int) (mak : ARat) (mak1 : Int) (h1 : Contract prg 107 [(vI n), (vI d)] (.tup [mak.pv, (vI mak1)])) : Contract prg 48 [(vI n), (vI d)] mak.pv :=
  Contract.ofL Tryz.func48 (by kernel_rfl) (L.done mixed tabOk (n := 78) (ns := [1]) (tr := [.reg [], .reg [.none, .none, (.pv (.tup [mak.pv, (vI mak1)]))], .reg []]) (cj h1 True.intro) (by kernel_rfl))
end linkworklaw52_part

namespace linkworklaw52_example
@[reducible] noncomputable def fn : Func := Tryz.f47
theorem e0 (par par1 : ARat) (h1 : Contract prg 48 [(vI 1), (vI 2)] par.pv) (h2 : Contract prg 48 [(vI 1), (vI 1)] par1.pv) : Contract prg 47 [] ((⟨[(⟨false, [], []⟩ : ARat), par], [[], [(⟨false, [], []⟩ : ARat), par1]]⟩ : ALaw).pv) :=
  Contract.ofL Tryz.func47 (by kernel_rfl) (L.done mixed tabOk (n := 72) (ns := [1, 3, 1, 3, 3]) (tr := [.reg [], .reg [.none, (.pv par.pv), (.slc 0 0 (([(⟨false, [], []⟩ : ARat), par] : List ARat).map ARat.cells)), .none, (.pv par1.pv), (.slc 0 0 (([(⟨false, [], []⟩ : ARat), par1] : List ARat).map ARat.cells)), (.slc 0 0 (([[], [(⟨false, [], []⟩ : ARat), par1]] : List (List ARat)).map (lcell ARat.cells)))]]) (cj h1 (cj (o_bs sz_ARat ([(⟨false, [], []⟩ : ARat), par] : List ARat)) (cj h2 (cj (o_bs sz_ARat ([(⟨false, [], []⟩ : ARat), par1] : List ARat)) (cj (o_bs (sz_l ARat.cells) ([[], [(⟨false, [], []⟩ : ARat), par1]] : List (List ARat))) True.intro))))) (by kernel_rfl))
end linkworklaw52_example

namespace linkworklaw52_awake
@[reducible] noncomputable def fn : Func := Tryz.f10
theorem e0 (exa : ALaw) (par atV : ARat) (exa1 : ALaw) (dwe : List AArc) (par1 par2 : ARat) (ris : List ARat) (par3 : ARat) (rat : Bool) (v : AArc) (par4 : ARat) (rat1 : Bool) (par5 par6 : ARat) (rat2 : Bool) (h1 : Contract prg 47 [] exa.pv) (h2 : Contract prg 48 [(vI (-1)), (vI 4)] par.pv) (h3 : Contract prg 21 [exa.pv, par.pv] (.tup [atV.pv, .nilI])) (h4 : Contract prg 47 [] exa1.pv) (h5 : Contract prg 35 [exa1.pv] (.tup [(lpv AArc.cells dwe), .nilI])) (h6 : Contract prg 48 [(vI 1), (vI 2)] par1.pv) (h7 : Contract prg 48 [(vI 1), (vI 1)] par2.pv) (h8 : Contract prg 12 [par1.pv, (⟨false, [], []⟩ : ARat).pv, par2.pv, (vI 3)] (.tup [(polyPV ris), .nilI])) (h9 : Contract prg 48 [(vI 1), (vI 4)] par3.pv) (h10 : Contract prg 17 [atV.pv, par3.pv] (vB rat)) (h11 : rat = true) (h12 : dwe.length = 1) (h13 : dwe[0]? = some v) (h14 : Contract prg 48 [(vI 1), (vI 2)] par4.pv) (h15 : Contract prg 17 [v.toV.pv, par4.pv] (vB rat1)) (h16 : rat1 = true) (h17 : Contract prg 48 [(vI 12), (vI 1)] par5.pv) (h18 : Contract prg 48 [(vI (-16)), (vI 1)] par6.pv) (h19 : Contract prg 49 [(polyPV ris), (polyPV [(⟨false, [], []⟩ : ARat), (⟨false, [], []⟩ : ARat), par5, par6])] (vB rat2)) : Contract prg 10 [] (vB rat2) :=
  Contract.ofL Tryz.func10 (by kernel_rfl) (L.done mixed tabOk (n := 90) (ns := [1, 1, 1, 1, 1, 1, 1, 1, 1, 1, 1, 1, 1, 1, 1, 1, 1, 1, 1, 1, 1, 1, 1, 1, 3, 1, 1, 1, 1, 1, 1, 1, 1, 1, 1, 1, 1, 1, 1, 1, 3, 1, 1, 1]) (tr := [.reg [], .reg [(.pv exa.pv), (.pv par.pv), (.pv (.tup [atV.pv, .nilI]))], .reg [(.pv exa1.pv), (.pv (.tup [(lpv AArc.cells dwe), .nilI]))], .reg [(.pv par1.pv), .none, (.pv par2.pv), (.pv (.tup [(polyPV ris), .nilI]))], dr 37 1 [.none, .none, .none, .none, .none, .none, .none, .none, .none, .none, .none, .none, (.pv par3.pv), (.pv (vB rat)), .none, .none, .none, (iI (dwe.length : Int)), .none, (.dec true), .none, .none, (.row 0 (AArc.cells v)), .none, .none, (.pv par4.pv), (.pv (vB rat1)), (.dec true), .none, .none, .none, .none, (.pv par5.pv), (.pv par6.pv), (.slc 0 0 (([(⟨false, [], []⟩ : ARat), (⟨false, [], []⟩ : ARat), par5, par6] : List ARat).map ARat.cells)), (.pv (vB rat2)), (.dec true)]]) (cj h1 (cj h2 (cj h3 (cj h4 (cj h5 (cj h6 (cj h7 (cj h8 (cj (Eq.refl true) (cj (Eq.refl true) (cj (Eq.refl true) (cj (Eq.refl true) (cj (Eq.refl true) (cj (Eq.refl true) (cj h9 (cj (Eq.refl true) (cj h10 (cj h11 (cj h11 (cj (o_len AArc.cells dwe) (cj h11 (cj h11 (cj (deqN_t h12) (cj (deqN_t h12) (cj (o_at AArc.cells (Eq.refl (0 : Int)) h13) (cj (deqN_t h12) (cj (deqN_t h12) (cj (deqN_t h12) (cj h14 (cj (deqN_t h12) (cj h15 (cj (deqN_t h12) (cj h16 (cj h16 (cj h16 (cj h16 (cj h17 (cj h16 (cj h18 (cj h16 (cj (o_bs sz_ARat ([(⟨false, [], []⟩ : ARat), (⟨false, [], []⟩ : ARat), par5, par6] : List ARat)) (cj h16 (cj h19 (cj h16 True.intro)))))))))))))))))))))))))))))))))))))))))))) (by kernel_rfl))
theorem e1 (exa : ALaw) (par atV : ARat) (exa1 : ALaw) (dwe : List AArc) (par1 par2 : ARat) (ris : List ARat) (par3 : ARat) (rat : Bool) (v : AArc) (par4 : ARat) (rat1 : Bool) (h1 : Contract prg 47 [] exa.pv) (h2 : Contract prg 48 [(vI (-1)), (vI 4)] par.pv) (h3 : Contract prg 21 [exa.pv, par.pv] (.tup [atV.pv, .nilI])) (h4 : Contract prg 47 [] exa1.pv) (h5 : Contract prg 35 [exa1.pv] (.tup [(lpv AArc.cells dwe), .nilI])) (h6 : Contract prg 48 [(vI 1), (vI 2)] par1.pv) (h7 : Contract prg 48 [(vI 1), (vI 1)] par2.pv) (h8 : Contract prg 12 [par1.pv, (⟨false, [], []⟩ : ARat).pv, par2.pv, (vI 3)] (.tup [(polyPV ris), .nilI])) (h9 : Contract prg 48 [(vI 1), (vI 4)] par3.pv) (h10 : Contract prg 17 [atV.pv, par3.pv] (vB rat)) (h11 : rat = true) (h12 : dwe.length = 1) (h13 : dwe[0]? = some v) (h14 : Contract prg 48 [(vI 1), (vI 2)] par4.pv) (h15 : Contract prg 17 [v.toV.pv, par4.pv] (vB rat1)) (h16 : rat1 = false) : Contract prg 10 [] (vB false) :=
  Contract.ofL Tryz.func10 (by kernel_rfl) (L.done mixed tabOk (n := 90) (ns := [1, 1, 1, 1, 1, 1, 1, 1, 1, 1, 1, 1, 1, 1, 1, 1, 1, 1, 1, 1, 1, 1, 1, 1, 3, 1, 1, 1, 1, 1, 1, 1, 1, 1, 1, 1, 1, 1, 1, 1]) (tr := [.reg [], .reg [(.pv exa.pv), (.pv par.pv), (.pv (.tup [atV.pv, .nilI]))], .reg [(.pv exa1.pv), (.pv (.tup [(lpv AArc.cells dwe), .nilI]))], .reg [(.pv par1.pv), .none, (.pv par2.pv), (.pv (.tup [(polyPV ris), .nilI]))], dr 37 1 [.none, .none, .none, .none, .none, .none, .none, .none, .none, .none, .none, .none, (.pv par3.pv), (.pv (vB rat)), .none, .none, .none, (iI (dwe.length : Int)), .none, (.dec true), .none, .none, (.row 0 (AArc.cells v)), .none, .none, (.pv par4.pv), (.pv (vB rat1)), (.dec true), .none, .skip, .skip, .skip, .skip, .skip, .skip, .skip, (.dec false)]]) (cj h1 (cj h2 (cj h3 (cj h4 (cj h5 (cj h6 (cj h7 (cj h8 (cj (Eq.refl true) (cj (Eq.refl true) (cj (Eq.refl true) (cj (Eq.refl true) (cj (Eq.refl true) (cj (Eq.refl true) (cj h9 (cj (Eq.refl true) (cj h10 (cj h11 (cj h11 (cj (o_len AArc.cells dwe) (cj h11 (cj h11 (cj (deqN_t h12) (cj (deqN_t h12) (cj (o_at AArc.cells (Eq.refl (0 : Int)) h13) (cj (deqN_t h12) (cj (deqN_t h12) (cj (deqN_t h12) (cj h14 (cj (deqN_t h12) (cj h15 (cj (deqN_t h12) (cj h16 (cj h16 (cj h16 (cj h16 (cj h16 (cj h16 (cj h16 (cj h16 True.intro)))))))))))))))))))))))))))))))))))))))) (by kernel_rfl))
theorem e2 (exa : ALaw) (par atV : ARat) (exa1 : ALaw) (dwe : List AArc) (par1 par2 : ARat) (ris : List ARat) (par3 : ARat) (rat : Bool) (h1 : Contract prg 47 [] exa.pv) (h2 : Contract prg 48 [(vI (-1)), (vI 4)] par.pv) (h3 : Contract prg 21 [exa.pv, par.pv] (.tup [atV.pv, .nilI])) (h4 : Contract prg 47 [] exa1.pv) (h5 : Contract prg 35 [exa1.pv] (.tup [(lpv AArc.cells dwe), .nilI])) (h6 : Contract prg 48 [(vI 1), (vI 2)] par1.pv) (h7 : Contract prg 48 [(vI 1), (vI 1)] par2.pv) (h8 : Contract prg 12 [par1.pv, (⟨false, [], []⟩ : ARat).pv, par2.pv, (vI 3)] (.tup [(polyPV ris), .nilI])) (h9 : Contract prg 48 [(vI 1), (vI 4)] par3.pv) (h10 : Contract prg 17 [atV.pv, par3.pv] (vB rat)) (h11 : rat = true) (h12 : dwe.length ≠ 1) : Contract prg 10 [] (vB false) :=
  Contract.ofL Tryz.func10 (by kernel_rfl) (L.done mixed tabOk (n := 90) (ns := [1, 1, 1, 1, 1, 1, 1, 1, 1, 1, 1, 1, 1, 1, 1, 1, 1, 1, 1, 1, 1, 1, 1, 1, 1, 1, 1, 1, 1, 1, 1, 1, 1, 1, 1, 1]) (tr := [.reg [], .reg [(.pv exa.pv), (.pv par.pv), (.pv (.tup [atV.pv, .nilI]))], .reg [(.pv exa1.pv), (.pv (.tup [(lpv AArc.cells dwe), .nilI]))], .reg [(.pv par1.pv), .none, (.pv par2.pv), (.pv (.tup [(polyPV ris), .nilI]))], dr 37 1 [.none, .none, .none, .none, .none, .none, .none, .none, .none, .none, .none, .none, (.pv par3.pv), (.pv (vB rat)), .none, .none, .none, (iI (dwe.length : Int)), .none, (.dec true), .none, .skip, .skip, .skip, .skip, .skip, .skip, (.dec false), .none, .skip, .skip, .skip, .skip, .skip, .skip, .skip]]) (cj h1 (cj h2 (cj h3 (cj h4 (cj h5 (cj h6 (cj h7 (cj h8 (cj (Eq.refl true) (cj (Eq.refl true) (cj (Eq.refl true) (cj (Eq.refl true) (cj (Eq.refl true) (cj (Eq.refl true) (cj h9 (cj (Eq.refl true) (cj h10 (cj h11 (cj h11 (cj (o_len AArc.cells dwe) (cj h11 (cj h11 (cj (deqN_f h12) (cj (deqN_f h12) (cj (deqN_f h12) (cj (deqN_f h12) (cj (deqN_f h12) (cj (deqN_f h12) (cj (deqN_f h12) (cj (Eq.refl false) (cj (Eq.refl false) (cj (Eq.refl false) (cj (Eq.refl false) (cj (Eq.refl false) (cj (Eq.refl false) (cj (Eq.refl false) True.intro)))))))))))))))))))))))))))))))))))) (by kernel_rfl))
theorem e3 (exa : ALaw) (par atV : ARat) (exa1 : ALaw) (dwe : List AArc) (par1 par2 : ARat) (ris : List ARat) (par3 : ARat) (rat : Bool) (h1 : Contract prg 47 [] exa.pv) (h2 : Contract prg 48 [(vI (-1)), (vI 4)] par.pv) (h3 : Contract prg 21 [exa.pv, par.pv] (.tup [atV.pv, .nilI])) (h4 : Contract prg 47 [] exa1.pv) (h5 : Contract prg 35 [exa1.pv] (.tup [(lpv AArc.cells dwe), .nilI])) (h6 : Contract prg 48 [(vI 1), (vI 2)] par1.pv) (h7 : Contract prg 48 [(vI 1), (vI 1)] par2.pv) (h8 : Contract prg 12 [par1.pv, (⟨false, [], []⟩ : ARat).pv, par2.pv, (vI 3)] (.tup [(polyPV ris), .nilI])) (h9 : Contract prg 48 [(vI 1), (vI 4)] par3.pv) (h10 : Contract prg 17 [atV.pv, par3.pv] (vB rat)) (h11 : rat = false) : Contract prg 10 [] (vB false) :=
  Contract.ofL Tryz.func10 (by kernel_rfl) (L.done mixed tabOk (n := 90) (ns := [1, 1, 1, 1, 1, 1, 1, 1, 1, 1, 1, 1, 1, 1, 1, 1, 1, 1, 1, 1, 1, 1, 1, 1, 1, 1, 1, 1, 1, 1, 1, 1, 1, 1]) (tr := [.reg [], .reg [(.pv exa.pv), (.pv par.pv), (.pv (.tup [atV.pv, .nilI]))], .reg [(.pv exa1.pv), (.pv (.tup [(lpv AArc.cells dwe), .nilI]))], .reg [(.pv par1.pv), .none, (.pv par2.pv), (.pv (.tup [(polyPV ris), .nilI]))], dr 37 1 [.none, .none, .none, .none, .none, .none, .none, .none, .none, .none, .none, .none, (.pv par3.pv), (.pv (vB rat)), .none, .none, .skip, .skip, .skip, (.dec false), .none, .skip, .skip, .skip, .skip, .skip, .skip, .none, .none, .skip, .skip, .skip, .skip, .skip, .skip, .skip]]) (cj h1 (cj h2 (cj h3 (cj h4 (cj h5 (cj h6 (cj h7 (cj h8 (cj (Eq.refl true) (cj (Eq.refl true) (cj (Eq.refl true) (cj (Eq.refl true) (cj (Eq.refl true) (cj (Eq.refl true) (cj h9 (cj (Eq.refl true) (cj h10 (cj h11 (cj h11 (cj h11 (cj h11 (cj (Eq.refl false) (cj (Eq.refl false) (cj (Eq.refl false) (cj (Eq.refl false) (cj (Eq.refl false) (cj (Eq.refl false) (cj (Eq.refl false) (cj (Eq.refl false) (cj (Eq.refl false) (cj (Eq.refl false) (cj (Eq.refl false) (cj (Eq.refl false) (cj (Eq.refl false) True.intro)))))))))))))))))))))))))))))))))) (by kernel_rfl))
theorem e4 (exa : ALaw) (par atV : ARat) (exa1 : ALaw) (dwe : List AArc) (par1 par2 : ARat) (ris : List ARat) (ris1 : Int) (h1 : Contract prg 47 [] exa.pv) (h2 : Contract prg 48 [(vI (-1)), (vI 4)] par.pv) (h3 : Contract prg 21 [exa.pv, par.pv] (.tup [atV.pv, .nilI])) (h4 : Contract prg 47 [] exa1.pv) (h5 : Contract prg 35 [exa1.pv] (.tup [(lpv AArc.cells dwe), .nilI])) (h6 : Contract prg 48 [(vI 1), (vI 2)] par1.pv) (h7 : Contract prg 48 [(vI 1), (vI 1)] par2.pv) (h8 : Contract prg 12 [par1.pv, (⟨false, [], []⟩ : ARat).pv, par2.pv, (vI 3)] (.tup [(polyPV ris), (.iface 57 (vI ris1))])) : Contract prg 10 [] (vB false) :=
  Contract.ofL Tryz.func10 (by kernel_rfl) (L.done mixed tabOk (n := 90) (ns := [1, 1, 1, 1, 1, 1, 1, 1, 1, 1, 1, 1, 1, 1, 1, 1, 1, 1, 1, 1, 1, 1, 1, 1, 1, 1, 1, 1, 1, 1, 1]) (tr := [.reg [], .reg [(.pv exa.pv), (.pv par.pv), (.pv (.tup [atV.pv, .nilI]))], .reg [(.pv exa1.pv), (.pv (.tup [(lpv AArc.cells dwe), .nilI]))], .reg [(.pv par1.pv), .none, (.pv par2.pv), (.pv (.tup [(polyPV ris), (.iface 57 (vI ris1))]))], dr 37 1 [.none, .none, .none, .none, .none, .none, .none, .none, .none, .none, .none, .skip, .skip, .skip, .none, .none, .skip, .skip, .skip, .none, .none, .skip, .skip, .skip, .skip, .skip, .skip, .none, .none, .skip, .skip, .skip, .skip, .skip, .skip, .skip]]) (cj h1 (cj h2 (cj h3 (cj h4 (cj h5 (cj h6 (cj h7 (cj h8 (cj (Eq.refl true) (cj (Eq.refl true) (cj (Eq.refl true) (cj (Eq.refl true) (cj (Eq.refl false) (cj (Eq.refl false) (cj (Eq.refl false) (cj (Eq.refl false) (cj (Eq.refl false) (cj (Eq.refl false) (cj (Eq.refl false) (cj (Eq.refl false) (cj (Eq.refl false) (cj (Eq.refl false) (cj (Eq.refl false) (cj (Eq.refl false) (cj (Eq.refl false) (cj (Eq.refl false) (cj (Eq.refl false) (cj (Eq.refl false) (cj (Eq.refl false) (cj (Eq.refl false) (cj (Eq.refl false) True.intro))))))))))))))))))))))))))))))) (by kernel_rfl))
theorem e5 (exa : ALaw) (par atV : ARat) (exa1 : ALaw) (dwe : List AArc) (dwe1 : Int) (par1 par2 : ARat) (ris : List ARat) (ris1 : Option Int) (h1 : Contract prg 47 [] exa.pv) (h2 : Contract prg 48 [(vI (-1)), (vI 4)] par.pv) (h3 : Contract prg 21 [exa.pv, par.pv] (.tup [atV.pv, .nilI])) (h4 : Contract prg 47 [] exa1.pv) (h5 : Contract prg 35 [exa1.pv] (.tup [(lpv AArc.cells dwe), (.iface 57 (vI dwe1))])) (h6 : Contract prg 48 [(vI 1), (vI 2)] par1.pv) (h7 : Contract prg 48 [(vI 1), (vI 1)] par2.pv) (h8 : Contract prg 12 [par1.pv, (⟨false, [], []⟩ : ARat).pv, par2.pv, (vI 3)] (.tup [(polyPV ris), (errPV ris1)])) : Contract prg 10 [] (vB false) :=
  Contract.ofL Tryz.func10 (by kernel_rfl) (L.done mixed tabOk (n := 90) (ns := [1, 1, 1, 1, 1, 1, 1, 1, 1, 1, 1, 1, 1, 1, 1, 1, 1, 1, 1, 1, 1, 1, 1, 1, 1, 1, 1, 1, 1, 1, 1]) (tr := [.reg [], .reg [(.pv exa.pv), (.pv par.pv), (.pv (.tup [atV.pv, .nilI]))], .reg [(.pv exa1.pv), (.pv (.tup [(lpv AArc.cells dwe), (.iface 57 (vI dwe1))]))], .reg [(.pv par1.pv), .none, (.pv par2.pv), (.pv (.tup [(polyPV ris), (errPV ris1)]))], dr 37 1 [.none, .none, .none, .none, .none, .none, .none, .skip, .skip, .none, .none, .skip, .skip, .skip, .none, .none, .skip, .skip, .skip, .none, .none, .skip, .skip, .skip, .skip, .skip, .skip, .none, .none, .skip, .skip, .skip, .skip, .skip, .skip, .skip]]) (cj h1 (cj h2 (cj h3 (cj h4 (cj h5 (cj h6 (cj h7 (cj h8 (cj (Eq.refl true) (cj (Eq.refl true) (cj (Eq.refl false) (cj (Eq.refl false) (cj (Eq.refl false) (cj (Eq.refl false) (cj (Eq.refl false) (cj (Eq.refl false) (cj (Eq.refl false) (cj (Eq.refl false) (cj (Eq.refl false) (cj (Eq.refl false) (cj (Eq.refl false) (cj (Eq.refl false) (cj (Eq.refl false) (cj (Eq.refl false) (cj (Eq.refl false) (cj (Eq.refl false) (cj (Eq.refl false) (cj (Eq.refl false) (cj (Eq.refl false) (cj (Eq.refl false) (cj (Eq.refl false) True.intro))))))))))))))))))))))))))))))) (by kernel_rfl))
theorem e6 (exa : ALaw) (par atV : ARat) (atV1 : Int) (exa1 : ALaw) (dwe : List AArc) (dwe1 : Option Int) (par1 par2 : ARat) (ris : List ARat) (ris1 : Option Int) (h1 : Contract prg 47 [] exa.pv) (h2 : Contract prg 48 [(vI (-1)), (vI 4)] par.pv) (h3 : Contract prg 21 [exa.pv, par.pv] (.tup [atV.pv, (.iface 57 (vI atV1))])) (h4 : Contract prg 47 [] exa1.pv) (h5 : Contract prg 35 [exa1.pv] (.tup [(lpv AArc.cells dwe), (errPV dwe1)])) (h6 : Contract prg 48 [(vI 1), (vI 2)] par1.pv) (h7 : Contract prg 48 [(vI 1), (vI 1)] par2.pv) (h8 : Contract prg 12 [par1.pv, (⟨false, [], []⟩ : ARat).pv, par2.pv, (vI 3)] (.tup [(polyPV ris), (errPV ris1)])) : Contract prg 10 [] (vB false) :=
  Contract.ofL Tryz.func10 (by kernel_rfl) (L.done mixed tabOk (n := 90) (ns := [1, 1, 1, 1, 1, 1, 1, 1, 1, 1, 1, 1, 1, 1, 1, 1, 1, 1, 1, 1, 1, 1, 1, 1, 1, 1, 1, 1, 1, 1, 1]) (tr := [.reg [], .reg [(.pv exa.pv), (.pv par.pv), (.pv (.tup [atV.pv, (.iface 57 (vI atV1))]))], .reg [(.pv exa1.pv), (.pv (.tup [(lpv AArc.cells dwe), (errPV dwe1)]))], .reg [(.pv par1.pv), .none, (.pv par2.pv), (.pv (.tup [(polyPV ris), (errPV ris1)]))], dr 37 1 [.none, .none, .none, .skip, .skip, .none, .none, .skip, .skip, .none, .none, .skip, .skip, .skip, .none, .none, .skip, .skip, .skip, .none, .none, .skip, .skip, .skip, .skip, .skip, .skip, .none, .none, .skip, .skip, .skip, .skip, .skip, .skip, .skip]]) (cj h1 (cj h2 (cj h3 (cj h4 (cj h5 (cj h6 (cj h7 (cj h8 (cj (Eq.refl false) (cj (Eq.refl false) (cj (Eq.refl false) (cj (Eq.refl false) (cj (Eq.refl false) (cj (Eq.refl false) (cj (Eq.refl false) (cj (Eq.refl false) (cj (Eq.refl false) (cj (Eq.refl false) (cj (Eq.refl false) (cj (Eq.refl false) (cj (Eq.refl false) (cj (Eq.refl false) (cj (Eq.refl false) (cj (Eq.refl false) (cj (Eq.refl false) (cj (Eq.refl false) (cj (Eq.refl false) (cj (Eq.refl false) (cj (Eq.refl false) (cj (Eq.refl false) (cj (Eq.refl false) True.intro))))))))))))))))))))))))))))))) (by kernel_rfl))
end linkworklaw52_awake

namespace linkworklaw52_long
@[reducible] noncomputable def fn : Func := Tryz.f11
theorem e0 (x : ARat) (h1 : (x.num.length + x.den.length) < 9223372036854775808) : Contract prg 11 [x.pv] (vB (decide ((((x.num.length + x.den.length) : Nat) : Int) > 4))) :=
  Contract.ofL Tryz.func11 (by kernel_rfl) (L.done mixed tabOk (n := 72) (ns := [1, 1, 1]) (tr := [.reg [], .reg [.none, .none, (iI (x.num.length : Int)), .none, .none, (iI (x.den.length : Int)), (iI (((x.num.length + x.den.length) : Nat) : Int))]]) (cj (o_len wordPV x.num) (cj (o_len wordPV x.den) (cj (bs_addN h1) True.intro))) (by kernel_rfl))
end linkworklaw52_long

end Go.Proofs.YtcgbmnkgmepikaaGreat.Sym.Path


/-
  Aw52: the statements about layer 52: part, example, awake, long.
-/
namespace Go.Proofs.YtcgbmnkgmepikaaGreat.Sym
open Go Path CInt
set_option linter.unusedVariables false

namespace C52

theorem part (n d : Int) (hn : InI64 n) (hd : InI64 d) (h0 : d ≠ 0) : Contract prg 48 [vI n, vI d] (mkR (Rat.divInt n d)).pv :=
  linkworklaw52_part.e0 n d _ _ (CRb.Make n d hn hd h0)

/-- The law of the example. -/
def exL : ALaw := ⟨[⟨false, [], []⟩, mkR (Rat.divInt 1 2)], [[], [⟨false, [], []⟩, mkR (Rat.divInt 1 1)]]⟩

theorem example' : Contract prg 47 [] exL.pv :=
  linkworklaw52_example.e0 _ _ (part 1 2 (by unfold InI64; decide) (by unfold InI64; decide) (by decide)) (part 1 1 (by unfold InI64; decide) (by unfold InI64; decide) (by decide))

theorem exL_chk : chkLaw exL = 0 := by decide +kernel
theorem exL_at : atW exL (mkR (Rat.divInt (-1) 4)).val = Rat.divInt 1 4 := by decide +kernel
theorem exL_fit4 : FitW 4 exL := by
  constructor
  · decide +kernel
  · decide +kernel
theorem exL_fit {k : Nat} (h : 4 ≤ k) : FitW k exL := ⟨fun a ha => ⟨Nat.le_trans (exL_fit4.1 a ha).1 h, Nat.le_trans (exL_fit4.1 a ha).2 h⟩, fun p hp a ha => ⟨Nat.le_trans (exL_fit4.2 p hp a ha).1 h, Nat.le_trans (exL_fit4.2 p hp a ha).2 h⟩⟩

theorem exL_dwells : Contract prg 35 [exL.pv] (.tup [lpv AArc.cells [⟨mkR 0, mkR (Rat.divInt 1 2)⟩], .nilI]) := by
  have hk := CLw.Check exL (exL_fit (by omega))
  rw [exL_chk] at hk
  have a1 := CPo.addZ ⟨false, [], []⟩ (by constructor <;> decide)
  have he := CLw.end' exL 0 (by decide) (by decide) (by decide +kernel)
  have a2 := CPo.addZ (mkR (endW exL 0)) (by constructor <;> decide +kernel)
  rw [mkR_val, show endW exL 0 = Rat.divInt 1 2 from by decide +kernel] at a2
  rw [show endW exL 0 = Rat.divInt 1 2 from by decide +kernel] at he
  refine law_Dwells.e0 exL hk ?_
  refine law_Dwells.l13 0 false exL 0 [] [] ⟨false, [], []⟩ _ _ _ (by decide) rfl (by decide) rfl rfl a1 he a2 rfl (by decide) (by decide) ?_
  refine law_Dwells.l10 _ true exL 1 _ [⟨false, [], []⟩, mkR (Rat.divInt 1 1)] (by decide) rfl (by decide) (by decide) ?_
  exact law_Dwells.l14 _ false exL 2 _ (by decide) rfl

theorem awake : Contract prg 10 [] (vB true) := by
  have p1 := part (-1) 4 (by unfold InI64; decide) (by unfold InI64; decide) (by decide)
  have p2 := part 1 2 (by unfold InI64; decide) (by unfold InI64; decide) (by decide)
  have p3 := part 1 1 (by unfold InI64; decide) (by unfold InI64; decide) (by decide)
  have p4 := part 1 4 (by unfold InI64; decide) (by unfold InI64; decide) (by decide)
  have p5 := part 12 1 (by unfold InI64; decide) (by unfold InI64; decide) (by decide)
  have p6 := part (-16) 1 (by unfold InI64; decide) (by unfold InI64; decide) (by decide)
  have hat := CLw.At exL (mkR (Rat.divInt (-1) 4)) exL_chk (exL_fit (by omega)) (mkR_valid _) (by constructor <;> decide +kernel)
  rw [exL_at] at hat
  have hri := CLw.Rise (mkR (Rat.divInt 1 2)) ⟨false, [], []⟩ (mkR (Rat.divInt 1 1)) 3 (by constructor <;> decide +kernel) (by constructor <;> decide) (by constructor <;> decide +kernel) (by decide +kernel)
  have r1 := CBa.Rat (mkR (Rat.divInt 1 4)) (mkR (Rat.divInt 1 4)) (by decide +kernel) (by decide +kernel)
  have r2 := CBa.Rat (mkR (Rat.divInt 1 2)) (mkR (Rat.divInt 1 2)) (by decide +kernel) (by decide +kernel)
  rw [eqR_self] at r1 r2
  have e : (riseL (mkR (Rat.divInt 1 2)).val (⟨false, [], []⟩ : ARat).val (mkR (Rat.divInt 1 1)).val 3).map mkR = [⟨false, [], []⟩, ⟨false, [], []⟩, mkR (Rat.divInt 12 1), mkR (Rat.divInt (-16) 1)] := by
    rw [show riseL (mkR (Rat.divInt 1 2)).val (⟨false, [], []⟩ : ARat).val (mkR (Rat.divInt 1 1)).val 3 = [0, 0, Rat.divInt 12 1, Rat.divInt (-16) 1] from by decide +kernel]
    rfl
  rw [e] at hri
  have r3 := CBa.Rats [⟨false, [], []⟩, ⟨false, [], []⟩, mkR (Rat.divInt 12 1), mkR (Rat.divInt (-16) 1)] [⟨false, [], []⟩, ⟨false, [], []⟩, mkR (Rat.divInt 12 1), mkR (Rat.divInt (-16) 1)] (by decide) (by decide +kernel)
  rw [eqRs_self] at r3
  exact linkworklaw52_awake.e0 _ _ _ _ _ _ _ _ _ _ _ _ _ _ _ _ example' p1 hat example' exL_dwells p2 p3 hri p4 r1 rfl rfl rfl p2 r2 rfl p5 p6 r3

theorem long (x : ARat) (h : x.num.length + x.den.length < 9223372036854775808) : Contract prg 11 [x.pv] (vB (decide (4 < x.num.length + x.den.length))) := by
  have := linkworklaw52_long.e0 x h
  rwa [show decide ((((x.num.length + x.den.length) : Nat) : Int) > 4) = decide (4 < x.num.length + x.den.length) from by congr 1; apply propext; omega] at this

end C52
end Go.Proofs.YtcgbmnkgmepikaaGreat.Sym

