import Derived.Test.YtcgbmnkgmepikaaGreatM3
import Derived.Test.YtcgbmnkgmepikaaGreatM4

/-
  PFrac: paths through functions (printed by a program of ours, wip/gen/gen2.py).
-/
namespace Go.Proofs.YtcgbmnkgmepikaaGreat.Sym.Path
open Go
set_option maxRecDepth 20000
set_option linter.unusedVariables false

namespace linkworkref02_Sign
@[reducible] noncomputable def fn : Func := Tryz.f19
theorem e0 (a : ARat) (par par1 : AWhole) (sig : Int) (h1 : Contract prg 64 [a.pv] (.tup [par.pv, par1.pv])) (h2 : Contract prg 65 [par.pv] (vI sig)) : Contract prg 19 [a.pv] (vI sig) :=
  Contract.ofL Tryz.func19 (by kernel_rfl) (L.done mixed tabOk (n := 78) (ns := [1, 1]) (tr := [.reg [], .reg [.none, (.pv (.tup [par.pv, par1.pv]))], .reg [.none, (.pv (vI sig))]]) (cj h1 (cj h2 True.intro)) (by kernel_rfl))
end linkworkref02_Sign

namespace linkworkref02_Valid
@[reducible] noncomputable def fn : Func := Tryz.f28
theorem e0 (a : ARat) (h1 : a.num.length = 0) (h2 : a.den.length = 0) : Contract prg 28 [a.pv] (vB (!a.neg)) :=
  Contract.ofL Tryz.func28 (by kernel_rfl) (L.done mixed tabOk (n := 84) (ns := [1, 1, 1, 1, 1, 1, 1, 1]) (tr := [.reg [], .reg [.none, .none, (iI (a.num.length : Int)), .none, .none, .none, .none, (iI (a.den.length : Int)), .none, (.dec true)], .dec true, .reg []]) (cj (o_len wordPV a.num) (cj (deqN_t h1) (cj (deqN_t h1) (cj (deqN_t h1) (cj (o_len wordPV a.den) (cj (deqN_t h1) (cj (deqN_t h1) (cj (deqN_t h2) True.intro)))))))) (by kernel_rfl))
theorem e1 (a : ARat) (pla pla1 : Bool) (gcd one : AWhole) (cmp : Int) (h1 : a.num.length = 0) (h2 : a.den.length ≠ 0) (h3 : Contract prg 72 [(wordsPV a.num)] (vB pla)) (h4 : pla = true) (h5 : Contract prg 72 [(wordsPV a.den)] (vB pla1)) (h6 : pla1 = true) (h7 : Contract prg 74 [(⟨false, a.num⟩ : AWhole).pv, (⟨false, a.den⟩ : AWhole).pv] gcd.pv) (h8 : Contract prg 75 [] one.pv) (h9 : Contract prg 73 [gcd.pv, one.pv] (vI cmp)) : Contract prg 28 [a.pv] (vB (cmp == 0)) :=
  Contract.ofL Tryz.func28 (by kernel_rfl) (L.done mixed tabOk (n := 87) (ns := [1, 1, 1, 1, 1, 1, 1, 1, 1, 1, 1, 1, 1, 1, 1, 1, 1, 1, 1, 1, 1, 1, 1, 1, 1, 1, 1, 1]) (tr := [.reg [], .reg [.none, .none, (iI (a.num.length : Int)), .none, .none, .none, .none, (iI (a.den.length : Int)), .none, (.dec true)], .dec false, .reg [.none, .none, (.pv (vB pla)), .none, .none, .none, (.pv (vB pla1)), (.dec true), .none, .none, .none, .none, .none, .none, .none, (.pv gcd.pv), (.pv one.pv), (.pv (vI cmp)), .none, (.dec true)]]) (cj (o_len wordPV a.num) (cj (deqN_t h1) (cj (deqN_t h1) (cj (deqN_t h1) (cj (o_len wordPV a.den) (cj (deqN_t h1) (cj (deqN_t h1) (cj (deqN_f h2) (cj h3 (cj h4 (cj h4 (cj h4 (cj h5 (cj h4 (cj h6 (cj h6 (cj h6 (cj h6 (cj h6 (cj h6 (cj h6 (cj h7 (cj h6 (cj h8 (cj h6 (cj h9 (cj h6 (cj h6 True.intro)))))))))))))))))))))))))))) (by kernel_rfl))
theorem e2 (a : ARat) (pla pla1 : Bool) (h1 : a.num.length = 0) (h2 : a.den.length ≠ 0) (h3 : Contract prg 72 [(wordsPV a.num)] (vB pla)) (h4 : pla = true) (h5 : Contract prg 72 [(wordsPV a.den)] (vB pla1)) (h6 : pla1 = false) : Contract prg 28 [a.pv] (vB false) :=
  Contract.ofL Tryz.func28 (by kernel_rfl) (L.done mixed tabOk (n := 87) (ns := [1, 1, 1, 1, 1, 1, 1, 1, 1, 1, 1, 1, 1, 1, 1, 1, 1, 1, 1, 1, 1, 1, 1, 1, 1]) (tr := [.reg [], .reg [.none, .none, (iI (a.num.length : Int)), .none, .none, .none, .none, (iI (a.den.length : Int)), .none, (.dec true)], .dec false, .reg [.none, .none, (.pv (vB pla)), .none, .none, .none, (.pv (vB pla1)), (.dec true), .none, .skip, .skip, .skip, .skip, .skip, .skip, .skip, .skip, .skip, .skip, (.dec false)]]) (cj (o_len wordPV a.num) (cj (deqN_t h1) (cj (deqN_t h1) (cj (deqN_t h1) (cj (o_len wordPV a.den) (cj (deqN_t h1) (cj (deqN_t h1) (cj (deqN_f h2) (cj h3 (cj h4 (cj h4 (cj h4 (cj h5 (cj h4 (cj h6 (cj h6 (cj h6 (cj h6 (cj h6 (cj h6 (cj h6 (cj h6 (cj h6 (cj h6 (cj h6 True.intro))))))))))))))))))))))))) (by kernel_rfl))
theorem e3 (a : ARat) (pla : Bool) (h1 : a.num.length = 0) (h2 : a.den.length ≠ 0) (h3 : Contract prg 72 [(wordsPV a.num)] (vB pla)) (h4 : pla = false) : Contract prg 28 [a.pv] (vB false) :=
  Contract.ofL Tryz.func28 (by kernel_rfl) (L.done mixed tabOk (n := 87) (ns := [1, 1, 1, 1, 1, 1, 1, 1, 1, 1, 1, 1, 1, 1, 1, 1, 1, 1, 1, 1, 1, 1, 1]) (tr := [.reg [], .reg [.none, .none, (iI (a.num.length : Int)), .none, .none, .none, .none, (iI (a.den.length : Int)), .none, (.dec true)], .dec false, .reg [.none, .none, (.pv (vB pla)), .none, .skip, .skip, .skip, (.dec false), .none, .skip, .skip, .skip, .skip, .skip, .skip, .skip, .skip, .skip, .skip]]) (cj (o_len wordPV a.num) (cj (deqN_t h1) (cj (deqN_t h1) (cj (deqN_t h1) (cj (o_len wordPV a.den) (cj (deqN_t h1) (cj (deqN_t h1) (cj (deqN_f h2) (cj h3 (cj h4 (cj h4 (cj h4 (cj h4 (cj (Eq.refl false) (cj (Eq.refl false) (cj (Eq.refl false) (cj (Eq.refl false) (cj (Eq.refl false) (cj (Eq.refl false) (cj (Eq.refl false) (cj (Eq.refl false) (cj (Eq.refl false) (cj (Eq.refl false) True.intro))))))))))))))))))))))) (by kernel_rfl))
theorem e4 (a : ARat) (pla pla1 : Bool) (gcd one : AWhole) (cmp : Int) (h1 : a.num.length ≠ 0) (h2 : Contract prg 72 [(wordsPV a.num)] (vB pla)) (h3 : pla = true) (h4 : Contract prg 72 [(wordsPV a.den)] (vB pla1)) (h5 : pla1 = true) (h6 : Contract prg 74 [(⟨false, a.num⟩ : AWhole).pv, (⟨false, a.den⟩ : AWhole).pv] gcd.pv) (h7 : Contract prg 75 [] one.pv) (h8 : Contract prg 73 [gcd.pv, one.pv] (vI cmp)) : Contract prg 28 [a.pv] (vB (cmp == 0)) :=
  Contract.ofL Tryz.func28 (by kernel_rfl) (L.done mixed tabOk (n := 87) (ns := [1, 1, 1, 1, 1, 1, 1, 1, 1, 1, 1, 1, 1, 1, 1, 1, 1, 1, 1, 1, 1, 1, 1, 1, 1, 1]) (tr := [.reg [], .reg [.none, .none, (iI (a.num.length : Int)), .none, .none, .skip, .skip, .skip, .skip, (.dec false)], .auto, .reg [.none, .none, (.pv (vB pla)), .none, .none, .none, (.pv (vB pla1)), (.dec true), .none, .none, .none, .none, .none, .none, .none, (.pv gcd.pv), (.pv one.pv), (.pv (vI cmp)), .none, (.dec true)]]) (cj (o_len wordPV a.num) (cj (deqN_f h1) (cj (deqN_f h1) (cj (deqN_f h1) (cj (deqN_f h1) (cj (deqN_f h1) (cj h2 (cj h3 (cj h3 (cj h3 (cj h4 (cj h3 (cj h5 (cj h5 (cj h5 (cj h5 (cj h5 (cj h5 (cj h5 (cj h6 (cj h5 (cj h7 (cj h5 (cj h8 (cj h5 (cj h5 True.intro)))))))))))))))))))))))))) (by kernel_rfl))
theorem e5 (a : ARat) (pla pla1 : Bool) (h1 : a.num.length ≠ 0) (h2 : Contract prg 72 [(wordsPV a.num)] (vB pla)) (h3 : pla = true) (h4 : Contract prg 72 [(wordsPV a.den)] (vB pla1)) (h5 : pla1 = false) : Contract prg 28 [a.pv] (vB false) :=
  Contract.ofL Tryz.func28 (by kernel_rfl) (L.done mixed tabOk (n := 87) (ns := [1, 1, 1, 1, 1, 1, 1, 1, 1, 1, 1, 1, 1, 1, 1, 1, 1, 1, 1, 1, 1, 1, 1]) (tr := [.reg [], .reg [.none, .none, (iI (a.num.length : Int)), .none, .none, .skip, .skip, .skip, .skip, (.dec false)], .auto, .reg [.none, .none, (.pv (vB pla)), .none, .none, .none, (.pv (vB pla1)), (.dec true), .none, .skip, .skip, .skip, .skip, .skip, .skip, .skip, .skip, .skip, .skip, (.dec false)]]) (cj (o_len wordPV a.num) (cj (deqN_f h1) (cj (deqN_f h1) (cj (deqN_f h1) (cj (deqN_f h1) (cj (deqN_f h1) (cj h2 (cj h3 (cj h3 (cj h3 (cj h4 (cj h3 (cj h5 (cj h5 (cj h5 (cj h5 (cj h5 (cj h5 (cj h5 (cj h5 (cj h5 (cj h5 (cj h5 True.intro))))))))))))))))))))))) (by kernel_rfl))
theorem e6 (a : ARat) (pla : Bool) (h1 : a.num.length ≠ 0) (h2 : Contract prg 72 [(wordsPV a.num)] (vB pla)) (h3 : pla = false) : Contract prg 28 [a.pv] (vB false) :=
  Contract.ofL Tryz.func28 (by kernel_rfl) (L.done mixed tabOk (n := 87) (ns := [1, 1, 1, 1, 1, 1, 1, 1, 1, 1, 1, 1, 1, 1, 1, 1, 1, 1, 1, 1, 1]) (tr := [.reg [], .reg [.none, .none, (iI (a.num.length : Int)), .none, .none, .skip, .skip, .skip, .skip, (.dec false)], .auto, .reg [.none, .none, (.pv (vB pla)), .none, .skip, .skip, .skip, (.dec false), .none, .skip, .skip, .skip, .skip, .skip, .skip, .skip, .skip, .skip, .skip]]) (cj (o_len wordPV a.num) (cj (deqN_f h1) (cj (deqN_f h1) (cj (deqN_f h1) (cj (deqN_f h1) (cj (deqN_f h1) (cj h2 (cj h3 (cj h3 (cj h3 (cj h3 (cj (Eq.refl false) (cj (Eq.refl false) (cj (Eq.refl false) (cj (Eq.refl false) (cj (Eq.refl false) (cj (Eq.refl false) (cj (Eq.refl false) (cj (Eq.refl false) (cj (Eq.refl false) (cj (Eq.refl false) True.intro))))))))))))))))))))) (by kernel_rfl))
end linkworkref02_Valid

namespace fraction_Add
@[reducible] noncomputable def fn : Func := Tryz.f32
theorem e0 (a b : ARat) (par par1 par2 par3 mul mul1 add mul2 : AWhole) (forV : ARat) (h1 : Contract prg 78 [a.pv] (.tup [par.pv, par1.pv])) (h2 : Contract prg 78 [b.pv] (.tup [par2.pv, par3.pv])) (h3 : Contract prg 81 [par.pv, par3.pv] mul.pv) (h4 : Contract prg 81 [par2.pv, par1.pv] mul1.pv) (h5 : Contract prg 80 [mul.pv, mul1.pv] add.pv) (h6 : Contract prg 81 [par1.pv, par3.pv] mul2.pv) (h7 : Contract prg 79 [add.pv, mul2.pv] forV.pv) : Contract prg 32 [a.pv, b.pv] forV.pv :=
  Contract.ofL Tryz.func32 (by kernel_rfl) (L.done mixed tabOk (n := 84) (ns := [1, 1, 1, 1, 1, 1, 1]) (tr := [.reg [], .reg [.none, (.pv (.tup [par.pv, par1.pv]))], .reg [.none, (.pv (.tup [par2.pv, par3.pv]))], dr 11 1 [.none, .none, (.pv mul.pv), .none, .none, (.pv mul1.pv), (.pv add.pv), .none, .none, (.pv mul2.pv), (.pv forV.pv)]]) (cj h1 (cj h2 (cj h3 (cj h4 (cj h5 (cj h6 (cj h7 True.intro))))))) (by kernel_rfl))
end fraction_Add

namespace fraction_Of
@[reducible] noncomputable def fn : Func := Tryz.f33
theorem e0 (n : Int) (of one : AWhole) (forV : ARat) (h1 : Contract prg 82 [(vI n)] of.pv) (h2 : Contract prg 83 [] one.pv) (h3 : Contract prg 79 [of.pv, one.pv] forV.pv) : Contract prg 33 [(vI n)] forV.pv :=
  Contract.ofL Tryz.func33 (by kernel_rfl) (L.done mixed tabOk (n := 72) (ns := [1, 1, 1]) (tr := [.reg [], .reg [.none, (.pv of.pv), (.pv one.pv), (.pv forV.pv)]]) (cj h1 (cj h2 (cj h3 True.intro))) (by kernel_rfl))
end fraction_Of

namespace fraction_Cmp
@[reducible] noncomputable def fn : Func := Tryz.f38
theorem e0 (a b : ARat) (par par1 par2 par3 mul mul1 : AWhole) (cmp : Int) (h1 : Contract prg 78 [a.pv] (.tup [par.pv, par1.pv])) (h2 : Contract prg 78 [b.pv] (.tup [par2.pv, par3.pv])) (h3 : Contract prg 81 [par.pv, par3.pv] mul.pv) (h4 : Contract prg 81 [par2.pv, par1.pv] mul1.pv) (h5 : Contract prg 93 [mul.pv, mul1.pv] (vI cmp)) : Contract prg 38 [a.pv, b.pv] (vI cmp) :=
  Contract.ofL Tryz.func38 (by kernel_rfl) (L.done mixed tabOk (n := 84) (ns := [1, 1, 1, 1, 1]) (tr := [.reg [], .reg [.none, (.pv (.tup [par.pv, par1.pv]))], .reg [.none, (.pv (.tup [par2.pv, par3.pv]))], dr 7 1 [.none, .none, (.pv mul.pv), .none, .none, (.pv mul1.pv), (.pv (vI cmp))]]) (cj h1 (cj h2 (cj h3 (cj h4 (cj h5 True.intro))))) (by kernel_rfl))
end fraction_Cmp

namespace fraction_Sign
@[reducible] noncomputable def fn : Func := Tryz.f39
theorem e0 (a : ARat) (par par1 : AWhole) (sig : Int) (h1 : Contract prg 78 [a.pv] (.tup [par.pv, par1.pv])) (h2 : Contract prg 94 [par.pv] (vI sig)) : Contract prg 39 [a.pv] (vI sig) :=
  Contract.ofL Tryz.func39 (by kernel_rfl) (L.done mixed tabOk (n := 78) (ns := [1, 1]) (tr := [.reg [], .reg [.none, (.pv (.tup [par.pv, par1.pv]))], .reg [.none, (.pv (vI sig))]]) (cj h1 (cj h2 True.intro)) (by kernel_rfl))
end fraction_Sign

namespace fraction_Valid
@[reducible] noncomputable def fn : Func := Tryz.f50
theorem e0 (a : ARat) (h1 : a.num.length = 0) (h2 : a.den.length = 0) : Contract prg 50 [a.pv] (vB (!a.neg)) :=
  Contract.ofL Tryz.func50 (by kernel_rfl) (L.done mixed tabOk (n := 84) (ns := [1, 1, 1, 1, 1, 1, 1, 1]) (tr := [.reg [], .reg [.none, .none, (iI (a.num.length : Int)), .none, .none, .none, .none, (iI (a.den.length : Int)), .none, (.dec true)], .dec true, .reg []]) (cj (o_len wordPV a.num) (cj (deqN_t h1) (cj (deqN_t h1) (cj (deqN_t h1) (cj (o_len wordPV a.den) (cj (deqN_t h1) (cj (deqN_t h1) (cj (deqN_t h2) True.intro)))))))) (by kernel_rfl))
theorem e1 (a : ARat) (h1 : a.num.length = 0) (h2 : a.den.length ≠ 0) : Contract prg 50 [a.pv] (vB false) :=
  Contract.ofL Tryz.func50 (by kernel_rfl) (L.done mixed tabOk (n := 105) (ns := [1, 1, 1, 1, 1, 1, 1, 1, 1, 1, 1, 1, 1, 1, 1, 1, 1, 1, 1, 1]) (tr := [.reg [], .reg [.none, .none, (iI (a.num.length : Int)), .none, .none, .none, .none, (iI (a.den.length : Int)), .none, (.dec true)], .dec false, dr 9 1 [], .reg [.none, .none, (iI (a.num.length : Int)), .none, .none, .skip, .skip, .skip, .skip, (.dec true), .none, .skip, .skip, .skip, .none, .none, .skip, .skip, .skip], .auto, .reg []]) (cj (o_len wordPV a.num) (cj (deqN_t h1) (cj (deqN_t h1) (cj (deqN_t h1) (cj (o_len wordPV a.den) (cj (deqN_t h1) (cj (deqN_t h1) (cj (deqN_f h2) (cj (o_len wordPV a.num) (cj (deqN_t h1) (cj (deqN_t h1) (cj (deqN_t h1) (cj (deqN_t h1) (cj (deqN_t h1) (cj (Eq.refl true) (cj (Eq.refl true) (cj (Eq.refl true) (cj (Eq.refl true) (cj (Eq.refl true) (cj (Eq.refl true) True.intro)))))))))))))))))))) (by kernel_rfl))
theorem e2 (a : ARat) (h1 : a.num.length ≠ 0) (h2 : a.den.length = 0) : Contract prg 50 [a.pv] (vB false) :=
  Contract.ofL Tryz.func50 (by kernel_rfl) (L.done mixed tabOk (n := 105) (ns := [1, 1, 1, 1, 1, 1, 1, 1, 1, 1, 1, 1, 1, 1, 1, 1, 1, 1, 1, 1]) (tr := [.reg [], .reg [.none, .none, (iI (a.num.length : Int)), .none, .none, .skip, .skip, .skip, .skip, (.dec false)], .auto, dr 9 1 [], .reg [.none, .none, (iI (a.num.length : Int)), .none, .none, .none, .none, (iI (a.den.length : Int)), .none, (.dec false), .none, .skip, .skip, .skip, (.dec true), .none, .skip, .skip, .skip], .auto, .reg []]) (cj (o_len wordPV a.num) (cj (deqN_f h1) (cj (deqN_f h1) (cj (deqN_f h1) (cj (deqN_f h1) (cj (deqN_f h1) (cj (o_len wordPV a.num) (cj (deqN_f h1) (cj (deqN_f h1) (cj (deqN_f h1) (cj (o_len wordPV a.den) (cj (deqN_f h1) (cj (deqN_f h1) (cj (deqN_t h2) (cj (deqN_t h2) (cj (deqN_t h2) (cj (deqN_t h2) (cj (Eq.refl true) (cj (Eq.refl true) (cj (Eq.refl true) True.intro)))))))))))))))))))) (by kernel_rfl))
theorem e3 (a : ARat) (val : Bool) (h1 : a.num.length ≠ 0) (h2 : a.den.length ≠ 0) (h3 : Contract prg 108 [(⟨false, a.num⟩ : AWhole).pv] (vB val)) (h4 : val = false) : Contract prg 50 [a.pv] (vB false) :=
  Contract.ofL Tryz.func50 (by kernel_rfl) (L.done mixed tabOk (n := 105) (ns := [1, 1, 1, 1, 1, 1, 1, 1, 1, 1, 1, 1, 1, 1, 1, 1, 1, 1, 1, 1, 1, 1]) (tr := [.reg [], .reg [.none, .none, (iI (a.num.length : Int)), .none, .none, .skip, .skip, .skip, .skip, (.dec false)], .auto, dr 9 1 [], .reg [.none, .none, (iI (a.num.length : Int)), .none, .none, .none, .none, (iI (a.den.length : Int)), .none, (.dec false), .none, .none, (.pv (vB val)), .none, (.dec false), .none, .skip, .skip, .skip, (.dec true)], .auto, .reg []]) (cj (o_len wordPV a.num) (cj (deqN_f h1) (cj (deqN_f h1) (cj (deqN_f h1) (cj (deqN_f h1) (cj (deqN_f h1) (cj (o_len wordPV a.num) (cj (deqN_f h1) (cj (deqN_f h1) (cj (deqN_f h1) (cj (o_len wordPV a.den) (cj (deqN_f h1) (cj (deqN_f h1) (cj (deqN_f h2) (cj (deqN_f h2) (cj h3 (cj (deqN_f h2) (cj (deqN_f h2) (cj (bnot_t h4) (cj (bnot_t h4) (cj (bnot_t h4) (cj (bnot_t h4) True.intro)))))))))))))))))))))) (by kernel_rfl))
theorem e4 (a : ARat) (val val1 : Bool) (h1 : a.num.length ≠ 0) (h2 : a.den.length ≠ 0) (h3 : Contract prg 108 [(⟨false, a.num⟩ : AWhole).pv] (vB val)) (h4 : val = true) (h5 : Contract prg 108 [(⟨false, a.den⟩ : AWhole).pv] (vB val1)) (h6 : val1 = false) : Contract prg 50 [a.pv] (vB false) :=
  Contract.ofL Tryz.func50 (by kernel_rfl) (L.done mixed tabOk (n := 105) (ns := [1, 1, 1, 1, 1, 1, 1, 1, 1, 1, 1, 1, 1, 1, 1, 1, 1, 1, 1, 1, 1, 1, 1, 1]) (tr := [.reg [], .reg [.none, .none, (iI (a.num.length : Int)), .none, .none, .skip, .skip, .skip, .skip, (.dec false)], .auto, dr 9 1 [], .reg [.none, .none, (iI (a.num.length : Int)), .none, .none, .none, .none, (iI (a.den.length : Int)), .none, (.dec false), .none, .none, (.pv (vB val)), .none, (.dec false), .none, .none, (.pv (vB val1)), .none, (.dec false)], .dec true, .reg []]) (cj (o_len wordPV a.num) (cj (deqN_f h1) (cj (deqN_f h1) (cj (deqN_f h1) (cj (deqN_f h1) (cj (deqN_f h1) (cj (o_len wordPV a.num) (cj (deqN_f h1) (cj (deqN_f h1) (cj (deqN_f h1) (cj (o_len wordPV a.den) (cj (deqN_f h1) (cj (deqN_f h1) (cj (deqN_f h2) (cj (deqN_f h2) (cj h3 (cj (deqN_f h2) (cj (deqN_f h2) (cj (bnot_f h4) (cj (bnot_f h4) (cj h5 (cj (bnot_f h4) (cj (bnot_f h4) (cj (bnot_t h6) True.intro)))))))))))))))))))))))) (by kernel_rfl))
theorem e5 (a : ARat) (val val1 : Bool) (gcd one : AWhole) (cmp : Int) (h1 : a.num.length ≠ 0) (h2 : a.den.length ≠ 0) (h3 : Contract prg 108 [(⟨false, a.num⟩ : AWhole).pv] (vB val)) (h4 : val = true) (h5 : Contract prg 108 [(⟨false, a.den⟩ : AWhole).pv] (vB val1)) (h6 : val1 = true) (h7 : Contract prg 109 [(⟨false, a.num⟩ : AWhole).pv, (⟨false, a.den⟩ : AWhole).pv] gcd.pv) (h8 : Contract prg 83 [] one.pv) (h9 : Contract prg 93 [gcd.pv, one.pv] (vI cmp)) : Contract prg 50 [a.pv] (vB (cmp == 0)) :=
  Contract.ofL Tryz.func50 (by kernel_rfl) (L.done mixed tabOk (n := 108) (ns := [1, 1, 1, 1, 1, 1, 1, 1, 1, 1, 1, 1, 1, 1, 1, 1, 1, 1, 1, 1, 1, 1, 1, 1, 1, 1, 1]) (tr := [.reg [], .reg [.none, .none, (iI (a.num.length : Int)), .none, .none, .skip, .skip, .skip, .skip, (.dec false)], .auto, dr 9 1 [], .reg [.none, .none, (iI (a.num.length : Int)), .none, .none, .none, .none, (iI (a.den.length : Int)), .none, (.dec false), .none, .none, (.pv (vB val)), .none, (.dec false), .none, .none, (.pv (vB val1)), .none, (.dec false)], .dec false, .reg [.none, .none, (.pv gcd.pv), (.pv one.pv), (.pv (vI cmp))]]) (cj (o_len wordPV a.num) (cj (deqN_f h1) (cj (deqN_f h1) (cj (deqN_f h1) (cj (deqN_f h1) (cj (deqN_f h1) (cj (o_len wordPV a.num) (cj (deqN_f h1) (cj (deqN_f h1) (cj (deqN_f h1) (cj (o_len wordPV a.den) (cj (deqN_f h1) (cj (deqN_f h1) (cj (deqN_f h2) (cj (deqN_f h2) (cj h3 (cj (deqN_f h2) (cj (deqN_f h2) (cj (bnot_f h4) (cj (bnot_f h4) (cj h5 (cj (bnot_f h4) (cj (bnot_f h4) (cj (bnot_f h6) (cj h7 (cj h8 (cj h9 True.intro))))))))))))))))))))))))))) (by kernel_rfl))
end fraction_Valid

namespace fraction_Sub
@[reducible] noncomputable def fn : Func := Tryz.f51
theorem e0 (a b neg add : ARat) (h1 : Contract prg 110 [b.pv] neg.pv) (h2 : Contract prg 32 [a.pv, neg.pv] add.pv) : Contract prg 51 [a.pv, b.pv] add.pv :=
  Contract.ofL Tryz.func51 (by kernel_rfl) (L.done mixed tabOk (n := 72) (ns := [1, 1]) (tr := [.reg [], dr 4 1 [.none, .none, (.pv neg.pv), (.pv add.pv)]]) (cj h1 (cj h2 True.intro)) (by kernel_rfl))
end fraction_Sub

namespace fraction_Div
@[reducible] noncomputable def fn : Func := Tryz.f52
theorem e0 (a b : ARat) (par par1 par2 par3 mul mul1 : AWhole) (fro : ARat) (fro1 : Option Int) (h1 : Contract prg 78 [a.pv] (.tup [par.pv, par1.pv])) (h2 : Contract prg 78 [b.pv] (.tup [par2.pv, par3.pv])) (h3 : Contract prg 81 [par.pv, par3.pv] mul.pv) (h4 : Contract prg 81 [par1.pv, par2.pv] mul1.pv) (h5 : Contract prg 111 [mul.pv, mul1.pv] (.tup [fro.pv, (errPV fro1)])) : Contract prg 52 [a.pv, b.pv] (.tup [fro.pv, (errPV fro1)]) :=
  Contract.ofL Tryz.func52 (by kernel_rfl) (L.done mixed tabOk (n := 84) (ns := [1, 1, 1, 1, 1]) (tr := [.reg [], .reg [.none, (.pv (.tup [par.pv, par1.pv]))], .reg [.none, (.pv (.tup [par2.pv, par3.pv]))], dr 9 2 [.none, .none, (.pv mul.pv), .none, .none, (.pv mul1.pv), (.pv (.tup [fro.pv, (errPV fro1)]))]]) (cj h1 (cj h2 (cj h3 (cj h4 (cj h5 True.intro))))) (by kernel_rfl))
end fraction_Div

namespace fraction_Mul
@[reducible] noncomputable def fn : Func := Tryz.f54
theorem e0 (a b : ARat) (par par1 par2 par3 mul mul1 : AWhole) (forV : ARat) (h1 : Contract prg 78 [a.pv] (.tup [par.pv, par1.pv])) (h2 : Contract prg 78 [b.pv] (.tup [par2.pv, par3.pv])) (h3 : Contract prg 81 [par.pv, par2.pv] mul.pv) (h4 : Contract prg 81 [par1.pv, par3.pv] mul1.pv) (h5 : Contract prg 79 [mul.pv, mul1.pv] forV.pv) : Contract prg 54 [a.pv, b.pv] forV.pv :=
  Contract.ofL Tryz.func54 (by kernel_rfl) (L.done mixed tabOk (n := 84) (ns := [1, 1, 1, 1, 1]) (tr := [.reg [], .reg [.none, (.pv (.tup [par.pv, par1.pv]))], .reg [.none, (.pv (.tup [par2.pv, par3.pv]))], dr 7 1 [.none, .none, (.pv mul.pv), .none, .none, (.pv mul1.pv), (.pv forV.pv)]]) (cj h1 (cj h2 (cj h3 (cj h4 (cj h5 True.intro))))) (by kernel_rfl))
end fraction_Mul

namespace linkworkref02_Sub
@[reducible] noncomputable def fn : Func := Tryz.f56
theorem e0 (a b neg add : ARat) (h1 : Contract prg 112 [b.pv] neg.pv) (h2 : Contract prg 105 [a.pv, neg.pv] add.pv) : Contract prg 56 [a.pv, b.pv] add.pv :=
  Contract.ofL Tryz.func56 (by kernel_rfl) (L.done mixed tabOk (n := 72) (ns := [1, 1]) (tr := [.reg [], dr 4 1 [.none, .none, (.pv neg.pv), (.pv add.pv)]]) (cj h1 (cj h2 True.intro)) (by kernel_rfl))
end linkworkref02_Sub

namespace linkworkref02_Mul
@[reducible] noncomputable def fn : Func := Tryz.f57
theorem e0 (a b : ARat) (par par1 par2 par3 mul mul1 : AWhole) (forV : ARat) (h1 : Contract prg 64 [a.pv] (.tup [par.pv, par1.pv])) (h2 : Contract prg 64 [b.pv] (.tup [par2.pv, par3.pv])) (h3 : Contract prg 114 [par.pv, par2.pv] mul.pv) (h4 : Contract prg 114 [par1.pv, par3.pv] mul1.pv) (h5 : Contract prg 113 [mul.pv, mul1.pv] forV.pv) : Contract prg 57 [a.pv, b.pv] forV.pv :=
  Contract.ofL Tryz.func57 (by kernel_rfl) (L.done mixed tabOk (n := 84) (ns := [1, 1, 1, 1, 1]) (tr := [.reg [], .reg [.none, (.pv (.tup [par.pv, par1.pv]))], .reg [.none, (.pv (.tup [par2.pv, par3.pv]))], dr 7 1 [.none, .none, (.pv mul.pv), .none, .none, (.pv mul1.pv), (.pv forV.pv)]]) (cj h1 (cj h2 (cj h3 (cj h4 (cj h5 True.intro))))) (by kernel_rfl))
end linkworkref02_Mul

namespace linkworkref02_Of
@[reducible] noncomputable def fn : Func := Tryz.f58
theorem e0 (n : Int) (of one : AWhole) (forV : ARat) (h1 : Contract prg 92 [(vI n)] of.pv) (h2 : Contract prg 75 [] one.pv) (h3 : Contract prg 113 [of.pv, one.pv] forV.pv) : Contract prg 58 [(vI n)] forV.pv :=
  Contract.ofL Tryz.func58 (by kernel_rfl) (L.done mixed tabOk (n := 72) (ns := [1, 1, 1]) (tr := [.reg [], .reg [.none, (.pv of.pv), (.pv one.pv), (.pv forV.pv)]]) (cj h1 (cj h2 (cj h3 True.intro))) (by kernel_rfl))
end linkworkref02_Of

namespace linkworkref02_Div
@[reducible] noncomputable def fn : Func := Tryz.f59
theorem e0 (a b : ARat) (par par1 par2 par3 mul mul1 : AWhole) (fro : ARat) (fro1 : Int) (h1 : Contract prg 64 [a.pv] (.tup [par.pv, par1.pv])) (h2 : Contract prg 64 [b.pv] (.tup [par2.pv, par3.pv])) (h3 : Contract prg 114 [par.pv, par3.pv] mul.pv) (h4 : Contract prg 114 [par1.pv, par2.pv] mul1.pv) (h5 : Contract prg 90 [mul.pv, mul1.pv] (.tup [fro.pv, (vI fro1)])) : Contract prg 59 [a.pv, b.pv] (.tup [fro.pv, (vI fro1)]) :=
  Contract.ofL Tryz.func59 (by kernel_rfl) (L.done mixed tabOk (n := 84) (ns := [1, 1, 1, 1, 1]) (tr := [.reg [], .reg [.none, (.pv (.tup [par.pv, par1.pv]))], .reg [.none, (.pv (.tup [par2.pv, par3.pv]))], dr 9 2 [.none, .none, (.pv mul.pv), .none, .none, (.pv mul1.pv), (.pv (.tup [fro.pv, (vI fro1)]))]]) (cj h1 (cj h2 (cj h3 (cj h4 (cj h5 True.intro))))) (by kernel_rfl))
end linkworkref02_Div

namespace linkworkref02_Parts
@[reducible] noncomputable def fn : Func := Tryz.f64
theorem e0 (a : ARat) (val : Bool) (one : AWhole) (h1 : Contract prg 28 [a.pv] (vB val)) (h2 : val = false) (h3 : Contract prg 75 [] one.pv) : Contract prg 64 [a.pv] (.tup [(⟨false, []⟩ : AWhole).pv, one.pv]) :=
  Contract.ofL Tryz.func64 (by kernel_rfl) (L.done mixed tabOk (n := 84) (ns := [1, 1, 1, 1, 1, 1, 1]) (tr := [.reg [], .reg [.none, (.pv (vB val)), .none, .none, .skip, .skip, .skip, .skip, (.dec true)], .auto, .reg [.none, (.pv one.pv)]]) (cj h1 (cj (bnot_t h2) (cj (bnot_t h2) (cj (bnot_t h2) (cj (bnot_t h2) (cj (bnot_t h2) (cj h3 True.intro))))))) (by kernel_rfl))
theorem e1 (a : ARat) (val : Bool) (one : AWhole) (h1 : Contract prg 28 [a.pv] (vB val)) (h2 : val = true) (h3 : a.num.length = 0) (h4 : Contract prg 75 [] one.pv) : Contract prg 64 [a.pv] (.tup [(⟨false, []⟩ : AWhole).pv, one.pv]) :=
  Contract.ofL Tryz.func64 (by kernel_rfl) (L.done mixed tabOk (n := 84) (ns := [1, 1, 1, 1, 1, 1, 1, 1, 1]) (tr := [.reg [], .reg [.none, (.pv (vB val)), .none, .none, .none, .none, (iI (a.num.length : Int)), .none, (.dec false)], .dec true, .reg [.none, (.pv one.pv)]]) (cj h1 (cj (bnot_f h2) (cj (bnot_f h2) (cj (bnot_f h2) (cj (o_len wordPV a.num) (cj (bnot_f h2) (cj (bnot_f h2) (cj (deqN_t h3) (cj h4 True.intro))))))))) (by kernel_rfl))
theorem e2 (a : ARat) (val : Bool) (h1 : Contract prg 28 [a.pv] (vB val)) (h2 : val = true) (h3 : a.num.length ≠ 0) : Contract prg 64 [a.pv] (.tup [(⟨a.neg, a.num⟩ : AWhole).pv, (⟨false, a.den⟩ : AWhole).pv]) :=
  Contract.ofL Tryz.func64 (by kernel_rfl) (L.done mixed tabOk (n := 87) (ns := [1, 1, 1, 1, 1, 1, 1, 1]) (tr := [.reg [], .reg [.none, (.pv (vB val)), .none, .none, .none, .none, (iI (a.num.length : Int)), .none, (.dec false)], .dec false, dr 9 1 []]) (cj h1 (cj (bnot_f h2) (cj (bnot_f h2) (cj (bnot_f h2) (cj (o_len wordPV a.num) (cj (bnot_f h2) (cj (bnot_f h2) (cj (deqN_f h3) True.intro)))))))) (by kernel_rfl))
end linkworkref02_Parts

namespace linkworkref02_Cmp
@[reducible] noncomputable def fn : Func := Tryz.f68
theorem e0 (a b sub : ARat) (sig : Int) (h1 : Contract prg 56 [a.pv, b.pv] sub.pv) (h2 : Contract prg 19 [sub.pv] (vI sig)) : Contract prg 68 [a.pv, b.pv] (vI sig) :=
  Contract.ofL Tryz.func68 (by kernel_rfl) (L.done mixed tabOk (n := 72) (ns := [1, 1]) (tr := [.reg [], .reg [.none, .none, (.pv sub.pv), (.pv (vI sig))]]) (cj h1 (cj h2 True.intro)) (by kernel_rfl))
end linkworkref02_Cmp

namespace linkworkref02_plain
@[reducible] noncomputable def fn : Func := Tryz.f72
theorem e0 (m : List UInt32) (k : Nat) (v : UInt32) (h1 : 0 < m.length) (h2 : InI64 ((m.length : Int) - 1)) (h3 : ((m.length : Int) - 1) = (k : Int)) (h4 : m[k]? = some v) : Contract prg 72 [(wordsPV m)] (vB ((v.toNat : Int) != 0)) :=
  Contract.ofL Tryz.func72 (by kernel_rfl) (L.done mixed tabOk (n := 72) (ns := [1, 1, 1, 1, 1, 1, 1, 1, 3, 1, 1, 1]) (tr := [.reg [], .reg [.none, (iI (m.length : Int)), .none, .none, .none, .none, (iI (m.length : Int)), (iI ((m.length : Int) - 1)), (.row k (wordPV v)), .none, .none, (.dec true)]]) (cj (o_len wordPV m) (cj (dltN_t h1) (cj (dltN_t h1) (cj (dltN_t h1) (cj (o_len wordPV m) (cj (dltN_t h1) (cj (bs_sub h2) (cj (dltN_t h1) (cj (o_at wordPV h3 h4) (cj (dltN_t h1) (cj (dltN_t h1) (cj (dltN_t h1) True.intro)))))))))))) (by kernel_rfl))
theorem e1 (m : List UInt32) (h1 : m.length ≤ 0) : Contract prg 72 [(wordsPV m)] (vB false) :=
  Contract.ofL Tryz.func72 (by kernel_rfl) (L.done mixed tabOk (n := 72) (ns := [1, 1, 1, 1, 1, 1, 1, 1, 1]) (tr := [.reg [], .reg [.none, (iI (m.length : Int)), .none, .none, .skip, .skip, .skip, .skip, .skip, .skip, .skip, (.dec false)]]) (cj (o_len wordPV m) (cj (dltN_f h1) (cj (dltN_f h1) (cj (dltN_f h1) (cj (dltN_f h1) (cj (dltN_f h1) (cj (dltN_f h1) (cj (dltN_f h1) (cj (dltN_f h1) True.intro))))))))) (by kernel_rfl))
end linkworkref02_plain

namespace linkworkref02_one
@[reducible] noncomputable def fn : Func := Tryz.f75
theorem e0 (of : AWhole) (h1 : Contract prg 92 [(vI 1)] of.pv) : Contract prg 75 [] of.pv :=
  Contract.ofL Tryz.func75 (by kernel_rfl) (L.done mixed tabOk (n := 72) (ns := [1]) (tr := [.reg [], .reg [(.pv of.pv)]]) (cj h1 True.intro) (by kernel_rfl))
end linkworkref02_one

namespace fraction_Parts
@[reducible] noncomputable def fn : Func := Tryz.f78
theorem e0 (a : ARat) (val : Bool) (one : AWhole) (h1 : Contract prg 50 [a.pv] (vB val)) (h2 : val = false) (h3 : Contract prg 83 [] one.pv) : Contract prg 78 [a.pv] (.tup [(⟨false, []⟩ : AWhole).pv, one.pv]) :=
  Contract.ofL Tryz.func78 (by kernel_rfl) (L.done mixed tabOk (n := 84) (ns := [1, 1, 1, 1, 1, 1, 1]) (tr := [.reg [], .reg [.none, (.pv (vB val)), .none, .none, .skip, .skip, .skip, .skip, (.dec true)], .auto, .reg [.none, (.pv one.pv)]]) (cj h1 (cj (bnot_t h2) (cj (bnot_t h2) (cj (bnot_t h2) (cj (bnot_t h2) (cj (bnot_t h2) (cj h3 True.intro))))))) (by kernel_rfl))
theorem e1 (a : ARat) (val : Bool) (one : AWhole) (h1 : Contract prg 50 [a.pv] (vB val)) (h2 : val = true) (h3 : a.num.length = 0) (h4 : Contract prg 83 [] one.pv) : Contract prg 78 [a.pv] (.tup [(⟨false, []⟩ : AWhole).pv, one.pv]) :=
  Contract.ofL Tryz.func78 (by kernel_rfl) (L.done mixed tabOk (n := 84) (ns := [1, 1, 1, 1, 1, 1, 1, 1, 1]) (tr := [.reg [], .reg [.none, (.pv (vB val)), .none, .none, .none, .none, (iI (a.num.length : Int)), .none, (.dec false)], .dec true, .reg [.none, (.pv one.pv)]]) (cj h1 (cj (bnot_f h2) (cj (bnot_f h2) (cj (bnot_f h2) (cj (o_len wordPV a.num) (cj (bnot_f h2) (cj (bnot_f h2) (cj (deqN_t h3) (cj h4 True.intro))))))))) (by kernel_rfl))
theorem e2_any0 (a : ARat) : anyL prg tab fn.ntmps (opsAt (focus [0, 2, 0, 0, 2, 1, 2, 0] [.code (bodyOf fn)])) (downs (opsAt (focus [0, 2, 0, 0, 2, 1, 2, 0] [.code (bodyOf fn)]))) [.none, .none, .none, .none, .none, (.slc (a.num : List UInt32).length 0 ((a.num : List UInt32).map wordPV)), .none, .none] ⟨[(1, (.ptr 1 0)), (2, (.ptr 2 0)), (3, (.ptr 3 0))], [(3, (.lit [(eB false), (.pv (.list []))])), (2, (.lit [(eB false), (.pv (.list []))])), (1, (.lit [(eB a.neg), (.pv (wordsPV a.num)), (.pv (wordsPV a.den))]))]⟩ = anyR prg tab fn.ntmps (opsAt (focus [0, 2, 0, 0, 2, 1, 2, 0] [.code (bodyOf fn)])) (downs (opsAt (focus [0, 2, 0, 0, 2, 1, 2, 0] [.code (bodyOf fn)]))) [.none, .none, .none, .none, .none, (.slc (a.num : List UInt32).length 0 ((a.num : List UInt32).map wordPV)), .none, .none] ⟨[(1, (.ptr 1 0)), (2, (.ptr 2 0)), (3, (.ptr 3 0))], [(3, (.lit [(eB false), (.pv (.list []))])), (2, (.lit [(eB false), (.pv (.list []))])), (1, (.lit [(eB a.neg), (.pv (wordsPV a.num)), (.pv (wordsPV a.den))]))]⟩ := by kernel_rfl
theorem e2_any1 (a : ARat) : anyL prg tab fn.ntmps (opsAt (focus [0, 2, 0, 0, 2, 1, 2, 0, 2, 0] [.code (bodyOf fn)])) (downs (opsAt (focus [0, 2, 0, 0, 2, 1, 2, 0, 2, 0] [.code (bodyOf fn)]))) [.none, .none, .none, .none, (.slc (a.den : List UInt32).length 0 ((a.den : List UInt32).map wordPV)), .none, .none, .none] ⟨[(1, (.ptr 1 0)), (2, (.ptr 2 0)), (3, (.ptr 3 0))], [(3, (.lit [(eB false), (.pv (.list []))])), (2, (.lit [(eB a.neg), (.pv (wordsPV a.num))])), (1, (.lit [(eB a.neg), (.pv (wordsPV a.num)), (.pv (wordsPV a.den))]))]⟩ = anyR prg tab fn.ntmps (opsAt (focus [0, 2, 0, 0, 2, 1, 2, 0, 2, 0] [.code (bodyOf fn)])) (downs (opsAt (focus [0, 2, 0, 0, 2, 1, 2, 0, 2, 0] [.code (bodyOf fn)]))) [.none, .none, .none, .none, (.slc (a.den : List UInt32).length 0 ((a.den : List UInt32).map wordPV)), .none, .none, .none] ⟨[(1, (.ptr 1 0)), (2, (.ptr 2 0)), (3, (.ptr 3 0))], [(3, (.lit [(eB false), (.pv (.list []))])), (2, (.lit [(eB a.neg), (.pv (wordsPV a.num))])), (1, (.lit [(eB a.neg), (.pv (wordsPV a.num)), (.pv (wordsPV a.den))]))]⟩ := by kernel_rfl
theorem e2 (a : ARat) (val : Bool) (h1 : Contract prg 50 [a.pv] (vB val)) (h2 : val = true) (h3 : a.num.length ≠ 0) (h4 : (([] : List UInt32) ++ a.num : List UInt32).length * 4 ≤ 140737488355328) (h5 : (([] : List UInt32) ++ a.den : List UInt32).length * 4 ≤ 140737488355328) : Contract prg 78 [a.pv] (.tup [(⟨a.neg, a.num⟩ : AWhole).pv, (⟨false, a.den⟩ : AWhole).pv]) :=
  Contract.ofL Tryz.func78 (by kernel_rfl) (L.done mixed tabOk (n := 93) (ns := [1, 1, 1, 1, 1, 1, 1, 1, 6, 3, 1, 6, 3, 1]) (tr := [.reg [], .reg [.none, (.pv (vB val)), .none, .none, .none, .none, (iI (a.num.length : Int)), .none, (.dec false)], .dec false, .keep [1, 2, 3], .any [.none, .none, .none, .none, .none, (.slc (a.num : List UInt32).length 0 ((a.num : List UInt32).map wordPV)), .none, .none], .keep [1, 2, 3], .any [.none, .none, .none, .none, (.slc (a.den : List UInt32).length 0 ((a.den : List UInt32).map wordPV)), .none, .none, .none]]) (cj h1 (cj (bnot_f h2) (cj (bnot_f h2) (cj (bnot_f h2) (cj (o_len wordPV a.num) (cj (bnot_f h2) (cj (bnot_f h2) (cj (deqN_f h3) (cj (o_appL sz_word ([] : List UInt32) (a.num : List UInt32) 4 (Eq.refl ([] : List UInt32).length) h4 rfl) (cj (o_frz sz_word (a.num : List UInt32) (Eq.refl (a.num : List UInt32).length)) (cj (e2_any0 a) (cj (o_appL sz_word ([] : List UInt32) (a.den : List UInt32) 4 (Eq.refl ([] : List UInt32).length) h5 rfl) (cj (o_frz sz_word (a.den : List UInt32) (Eq.refl (a.den : List UInt32).length)) (cj (e2_any1 a) True.intro)))))))))))))) (by kernel_rfl))
end fraction_Parts

namespace fraction_form
@[reducible] noncomputable def fn : Func := Tryz.f79
theorem e0 (n d : AWhole) (sig : Int) (h1 : Contract prg 94 [n.pv] (vI sig)) (h2 : sig = 0) : Contract prg 79 [n.pv, d.pv] ((⟨false, [], []⟩ : ARat).pv) :=
  Contract.ofL Tryz.func79 (by kernel_rfl) (L.done mixed tabOk (n := 84) (ns := [1, 1]) (tr := [.reg [], .reg [.none, (.pv (vI sig))], .dec true, .reg []]) (cj h1 (cj (deq_t h2) True.intro)) (by kernel_rfl))
theorem e1 (n d : AWhole) (sig sig1 : Int) (neg neg1 gcd : AWhole) (sig2 : Int) (neg2 div div1 : AWhole) (div2 : Option Int) (div3 div4 : AWhole) (div5 : Option Int) (h1 : Contract prg 94 [n.pv] (vI sig)) (h2 : sig ≠ 0) (h3 : Contract prg 94 [d.pv] (vI sig1)) (h4 : sig1 < 0) (h5 : Contract prg 123 [n.pv] neg.pv) (h6 : Contract prg 123 [d.pv] neg1.pv) (h7 : Contract prg 109 [neg.pv, neg1.pv] gcd.pv) (h8 : Contract prg 94 [neg.pv] (vI sig2)) (h9 : sig2 < 0) (h10 : Contract prg 123 [neg.pv] neg2.pv) (h11 : Contract prg 124 [neg2.pv, gcd.pv] (.tup [div.pv, div1.pv, (errPV div2)])) (h12 : Contract prg 124 [neg1.pv, gcd.pv] (.tup [div3.pv, div4.pv, (errPV div5)])) : Contract prg 79 [n.pv, d.pv] ((⟨(decide (sig2 < 0)), div.mag, div3.mag⟩ : ARat).pv) :=
  Contract.ofL Tryz.func79 (by kernel_rfl) (L.done mixed tabOk (n := 141) (ns := [1, 1, 1, 1, 1, 1, 1, 1, 1, 1, 1, 1]) (tr := [.reg [], .reg [.none, (.pv (vI sig))], .dec false, .reg [.none, (.pv (vI sig1))], .dec true, dr 4 2 [.none, (.pv neg.pv), .none, (.pv neg1.pv)], .reg [.none, .none, (.pv gcd.pv)], .reg [.none, (.pv (vI sig2))], .reg [], .dec true, .reg [.none, (.pv neg2.pv)], .reg [.none, .none, (.pv (.tup [div.pv, div1.pv, (errPV div2)]))], .reg [.none, .none, (.pv (.tup [div3.pv, div4.pv, (errPV div5)]))], .reg []]) (cj h1 (cj (deq_f h2) (cj h3 (cj (dlt_t h4) (cj h5 (cj h6 (cj h7 (cj h8 (cj (dlt_t h9) (cj h10 (cj h11 (cj h12 True.intro)))))))))))) (by kernel_rfl))
theorem e2 (n d : AWhole) (sig sig1 : Int) (neg neg1 gcd : AWhole) (sig2 : Int) (div div1 : AWhole) (div2 : Option Int) (div3 div4 : AWhole) (div5 : Option Int) (h1 : Contract prg 94 [n.pv] (vI sig)) (h2 : sig ≠ 0) (h3 : Contract prg 94 [d.pv] (vI sig1)) (h4 : sig1 < 0) (h5 : Contract prg 123 [n.pv] neg.pv) (h6 : Contract prg 123 [d.pv] neg1.pv) (h7 : Contract prg 109 [neg.pv, neg1.pv] gcd.pv) (h8 : Contract prg 94 [neg.pv] (vI sig2)) (h9 : 0 ≤ sig2) (h10 : Contract prg 124 [neg.pv, gcd.pv] (.tup [div.pv, div1.pv, (errPV div2)])) (h11 : Contract prg 124 [neg1.pv, gcd.pv] (.tup [div3.pv, div4.pv, (errPV div5)])) : Contract prg 79 [n.pv, d.pv] ((⟨(decide (sig2 < 0)), div.mag, div3.mag⟩ : ARat).pv) :=
  Contract.ofL Tryz.func79 (by kernel_rfl) (L.done mixed tabOk (n := 141) (ns := [1, 1, 1, 1, 1, 1, 1, 1, 1, 1, 1]) (tr := [.reg [], .reg [.none, (.pv (vI sig))], .dec false, .reg [.none, (.pv (vI sig1))], .dec true, dr 4 2 [.none, (.pv neg.pv), .none, (.pv neg1.pv)], .reg [.none, .none, (.pv gcd.pv)], .reg [.none, (.pv (vI sig2))], .reg [], .dec false, .reg [.none, .none, (.pv (.tup [div.pv, div1.pv, (errPV div2)]))], .reg [.none, .none, (.pv (.tup [div3.pv, div4.pv, (errPV div5)]))], .reg []]) (cj h1 (cj (deq_f h2) (cj h3 (cj (dlt_t h4) (cj h5 (cj h6 (cj h7 (cj h8 (cj (dlt_f h9) (cj h10 (cj h11 True.intro))))))))))) (by kernel_rfl))
theorem e3 (n d : AWhole) (sig sig1 : Int) (gcd : AWhole) (sig2 : Int) (neg div div1 : AWhole) (div2 : Option Int) (div3 div4 : AWhole) (div5 : Option Int) (h1 : Contract prg 94 [n.pv] (vI sig)) (h2 : sig ≠ 0) (h3 : Contract prg 94 [d.pv] (vI sig1)) (h4 : 0 ≤ sig1) (h5 : Contract prg 109 [n.pv, d.pv] gcd.pv) (h6 : Contract prg 94 [n.pv] (vI sig2)) (h7 : sig2 < 0) (h8 : Contract prg 123 [n.pv] neg.pv) (h9 : Contract prg 124 [neg.pv, gcd.pv] (.tup [div.pv, div1.pv, (errPV div2)])) (h10 : Contract prg 124 [d.pv, gcd.pv] (.tup [div3.pv, div4.pv, (errPV div5)])) : Contract prg 79 [n.pv, d.pv] ((⟨(decide (sig2 < 0)), div.mag, div3.mag⟩ : ARat).pv) :=
  Contract.ofL Tryz.func79 (by kernel_rfl) (L.done mixed tabOk (n := 141) (ns := [1, 1, 1, 1, 1, 1, 1, 1, 1, 1]) (tr := [.reg [], .reg [.none, (.pv (vI sig))], .dec false, .reg [.none, (.pv (vI sig1))], .dec false, .reg [.none, .none, (.pv gcd.pv)], .reg [.none, (.pv (vI sig2))], .reg [], .dec true, .reg [.none, (.pv neg.pv)], .reg [.none, .none, (.pv (.tup [div.pv, div1.pv, (errPV div2)]))], .reg [.none, .none, (.pv (.tup [div3.pv, div4.pv, (errPV div5)]))], .reg []]) (cj h1 (cj (deq_f h2) (cj h3 (cj (dlt_f h4) (cj h5 (cj h6 (cj (dlt_t h7) (cj h8 (cj h9 (cj h10 True.intro)))))))))) (by kernel_rfl))
theorem e4 (n d : AWhole) (sig sig1 : Int) (gcd : AWhole) (sig2 : Int) (div div1 : AWhole) (div2 : Option Int) (div3 div4 : AWhole) (div5 : Option Int) (h1 : Contract prg 94 [n.pv] (vI sig)) (h2 : sig ≠ 0) (h3 : Contract prg 94 [d.pv] (vI sig1)) (h4 : 0 ≤ sig1) (h5 : Contract prg 109 [n.pv, d.pv] gcd.pv) (h6 : Contract prg 94 [n.pv] (vI sig2)) (h7 : 0 ≤ sig2) (h8 : Contract prg 124 [n.pv, gcd.pv] (.tup [div.pv, div1.pv, (errPV div2)])) (h9 : Contract prg 124 [d.pv, gcd.pv] (.tup [div3.pv, div4.pv, (errPV div5)])) : Contract prg 79 [n.pv, d.pv] ((⟨(decide (sig2 < 0)), div.mag, div3.mag⟩ : ARat).pv) :=
  Contract.ofL Tryz.func79 (by kernel_rfl) (L.done mixed tabOk (n := 141) (ns := [1, 1, 1, 1, 1, 1, 1, 1, 1]) (tr := [.reg [], .reg [.none, (.pv (vI sig))], .dec false, .reg [.none, (.pv (vI sig1))], .dec false, .reg [.none, .none, (.pv gcd.pv)], .reg [.none, (.pv (vI sig2))], .reg [], .dec false, .reg [.none, .none, (.pv (.tup [div.pv, div1.pv, (errPV div2)]))], .reg [.none, .none, (.pv (.tup [div3.pv, div4.pv, (errPV div5)]))], .reg []]) (cj h1 (cj (deq_f h2) (cj h3 (cj (dlt_f h4) (cj h5 (cj h6 (cj (dlt_f h7) (cj h8 (cj h9 True.intro))))))))) (by kernel_rfl))
end fraction_form

namespace fraction_one
@[reducible] noncomputable def fn : Func := Tryz.f83
theorem e0 (of : AWhole) (h1 : Contract prg 82 [(vI 1)] of.pv) : Contract prg 83 [] of.pv :=
  Contract.ofL Tryz.func83 (by kernel_rfl) (L.done mixed tabOk (n := 72) (ns := [1]) (tr := [.reg [], .reg [(.pv of.pv)]]) (cj h1 True.intro) (by kernel_rfl))
end fraction_one

namespace linkworkref02_From
@[reducible] noncomputable def fn : Func := Tryz.f90
theorem e0 (n d : AWhole) (sig : Int) (h1 : Contract prg 65 [d.pv] (vI sig)) (h2 : sig = 0) : Contract prg 90 [n.pv, d.pv] (.tup [(⟨false, [], []⟩ : ARat).pv, (vI 8)]) :=
  Contract.ofL Tryz.func90 (by kernel_rfl) (L.done mixed tabOk (n := 84) (ns := [1, 1]) (tr := [.reg [], .reg [.none, (.pv (vI sig))], .dec true, .reg []]) (cj h1 (cj (deq_t h2) True.intro)) (by kernel_rfl))
theorem e1 (n d : AWhole) (sig : Int) (forV : ARat) (h1 : Contract prg 65 [d.pv] (vI sig)) (h2 : sig ≠ 0) (h3 : Contract prg 113 [n.pv, d.pv] forV.pv) : Contract prg 90 [n.pv, d.pv] (.tup [forV.pv, (vI 0)]) :=
  Contract.ofL Tryz.func90 (by kernel_rfl) (L.done mixed tabOk (n := 87) (ns := [1, 1, 1]) (tr := [.reg [], .reg [.none, (.pv (vI sig))], .dec false, .reg [.none, .none, (.pv forV.pv)]]) (cj h1 (cj (deq_f h2) (cj h3 True.intro))) (by kernel_rfl))
end linkworkref02_From

namespace linkworkref02_Floor
@[reducible] noncomputable def fn : Func := Tryz.f91
theorem e0 (a : ARat) (par par1 div div1 : AWhole) (div2 : Int) (h1 : Contract prg 64 [a.pv] (.tup [par.pv, par1.pv])) (h2 : Contract prg 138 [par.pv, par1.pv] (.tup [div.pv, div1.pv, (vI div2)])) : Contract prg 91 [a.pv] div.pv :=
  Contract.ofL Tryz.func91 (by kernel_rfl) (L.done mixed tabOk (n := 84) (ns := [1, 1]) (tr := [.reg [], .reg [.none, (.pv (.tup [par.pv, par1.pv]))], .reg [.none, .none, (.pv (.tup [div.pv, div1.pv, (vI div2)]))], .reg []]) (cj h1 (cj h2 True.intro)) (by kernel_rfl))
end linkworkref02_Floor

namespace linkworkref02_Add
@[reducible] noncomputable def fn : Func := Tryz.f105
theorem e0 (a b : ARat) (par par1 par2 par3 mul mul1 add mul2 : AWhole) (forV : ARat) (h1 : Contract prg 64 [a.pv] (.tup [par.pv, par1.pv])) (h2 : Contract prg 64 [b.pv] (.tup [par2.pv, par3.pv])) (h3 : Contract prg 114 [par.pv, par3.pv] mul.pv) (h4 : Contract prg 114 [par2.pv, par1.pv] mul1.pv) (h5 : Contract prg 150 [mul.pv, mul1.pv] add.pv) (h6 : Contract prg 114 [par1.pv, par3.pv] mul2.pv) (h7 : Contract prg 113 [add.pv, mul2.pv] forV.pv) : Contract prg 105 [a.pv, b.pv] forV.pv :=
  Contract.ofL Tryz.func105 (by kernel_rfl) (L.done mixed tabOk (n := 84) (ns := [1, 1, 1, 1, 1, 1, 1]) (tr := [.reg [], .reg [.none, (.pv (.tup [par.pv, par1.pv]))], .reg [.none, (.pv (.tup [par2.pv, par3.pv]))], dr 11 1 [.none, .none, (.pv mul.pv), .none, .none, (.pv mul1.pv), (.pv add.pv), .none, .none, (.pv mul2.pv), (.pv forV.pv)]]) (cj h1 (cj h2 (cj h3 (cj h4 (cj h5 (cj h6 (cj h7 True.intro))))))) (by kernel_rfl))
end linkworkref02_Add

namespace linkworkref02_Make
@[reducible] noncomputable def fn : Func := Tryz.f107
theorem e0 (n d : Int) (of of1 : AWhole) (fro : ARat) (fro1 : Int) (h1 : Contract prg 92 [(vI n)] of.pv) (h2 : Contract prg 92 [(vI d)] of1.pv) (h3 : Contract prg 90 [of.pv, of1.pv] (.tup [fro.pv, (vI fro1)])) : Contract prg 107 [(vI n), (vI d)] (.tup [fro.pv, (vI fro1)]) :=
  Contract.ofL Tryz.func107 (by kernel_rfl) (L.done mixed tabOk (n := 72) (ns := [1, 1, 1]) (tr := [.reg [], .reg [.none, (.pv of.pv), .none, (.pv of1.pv), (.pv (.tup [fro.pv, (vI fro1)]))]]) (cj h1 (cj h2 (cj h3 True.intro))) (by kernel_rfl))
end linkworkref02_Make

namespace fraction_Neg
@[reducible] noncomputable def fn : Func := Tryz.f110
theorem e0 (a : ARat) (par par1 neg : AWhole) (forV : ARat) (h1 : Contract prg 78 [a.pv] (.tup [par.pv, par1.pv])) (h2 : Contract prg 123 [par.pv] neg.pv) (h3 : Contract prg 79 [neg.pv, par1.pv] forV.pv) : Contract prg 110 [a.pv] forV.pv :=
  Contract.ofL Tryz.func110 (by kernel_rfl) (L.done mixed tabOk (n := 78) (ns := [1, 1, 1]) (tr := [.reg [], .reg [.none, (.pv (.tup [par.pv, par1.pv]))], dr 4 1 [.none, (.pv neg.pv), .none, (.pv forV.pv)]]) (cj h1 (cj h2 (cj h3 True.intro))) (by kernel_rfl))
end fraction_Neg

namespace fraction_From
@[reducible] noncomputable def fn : Func := Tryz.f111
theorem e0 (n d : AWhole) (sig : Int) (h1 : Contract prg 94 [d.pv] (vI sig)) (h2 : sig = 0) : Contract prg 111 [n.pv, d.pv] (.tup [(⟨false, [], []⟩ : ARat).pv, (.iface 57 (vI 8))]) :=
  Contract.ofL Tryz.func111 (by kernel_rfl) (L.done mixed tabOk (n := 84) (ns := [1, 1]) (tr := [.reg [], .reg [.none, (.pv (vI sig))], .dec true, .reg []]) (cj h1 (cj (deq_t h2) True.intro)) (by kernel_rfl))
theorem e1 (n d : AWhole) (sig : Int) (forV : ARat) (h1 : Contract prg 94 [d.pv] (vI sig)) (h2 : sig ≠ 0) (h3 : Contract prg 79 [n.pv, d.pv] forV.pv) : Contract prg 111 [n.pv, d.pv] (.tup [forV.pv, .nilI]) :=
  Contract.ofL Tryz.func111 (by kernel_rfl) (L.done mixed tabOk (n := 87) (ns := [1, 1, 1]) (tr := [.reg [], .reg [.none, (.pv (vI sig))], .dec false, .reg [.none, .none, (.pv forV.pv)]]) (cj h1 (cj (deq_f h2) (cj h3 True.intro))) (by kernel_rfl))
end fraction_From

namespace linkworkref02_Neg
@[reducible] noncomputable def fn : Func := Tryz.f112
theorem e0 (a : ARat) (par par1 neg : AWhole) (forV : ARat) (h1 : Contract prg 64 [a.pv] (.tup [par.pv, par1.pv])) (h2 : Contract prg 153 [par.pv] neg.pv) (h3 : Contract prg 113 [neg.pv, par1.pv] forV.pv) : Contract prg 112 [a.pv] forV.pv :=
  Contract.ofL Tryz.func112 (by kernel_rfl) (L.done mixed tabOk (n := 78) (ns := [1, 1, 1]) (tr := [.reg [], .reg [.none, (.pv (.tup [par.pv, par1.pv]))], dr 4 1 [.none, (.pv neg.pv), .none, (.pv forV.pv)]]) (cj h1 (cj h2 (cj h3 True.intro))) (by kernel_rfl))
end linkworkref02_Neg

namespace linkworkref02_form
@[reducible] noncomputable def fn : Func := Tryz.f113
theorem e0 (n d : AWhole) (sig : Int) (h1 : Contract prg 65 [n.pv] (vI sig)) (h2 : sig = 0) : Contract prg 113 [n.pv, d.pv] ((⟨false, [], []⟩ : ARat).pv) :=
  Contract.ofL Tryz.func113 (by kernel_rfl) (L.done mixed tabOk (n := 84) (ns := [1, 1]) (tr := [.reg [], .reg [.none, (.pv (vI sig))], .dec true, .reg []]) (cj h1 (cj (deq_t h2) True.intro)) (by kernel_rfl))
theorem e1 (n d : AWhole) (sig sig1 : Int) (neg neg1 gcd div div1 : AWhole) (div2 : Int) (div3 div4 : AWhole) (div5 : Int) (h1 : Contract prg 65 [n.pv] (vI sig)) (h2 : sig ≠ 0) (h3 : Contract prg 65 [d.pv] (vI sig1)) (h4 : sig1 < 0) (h5 : Contract prg 153 [n.pv] neg.pv) (h6 : Contract prg 153 [d.pv] neg1.pv) (h7 : Contract prg 74 [neg.pv, neg1.pv] gcd.pv) (h8 : Contract prg 138 [neg.pv, gcd.pv] (.tup [div.pv, div1.pv, (vI div2)])) (h9 : Contract prg 138 [neg1.pv, gcd.pv] (.tup [div3.pv, div4.pv, (vI div5)])) : Contract prg 113 [n.pv, d.pv] ((⟨div.neg, div.mag, div3.mag⟩ : ARat).pv) :=
  Contract.ofL Tryz.func113 (by kernel_rfl) (L.done mixed tabOk (n := 120) (ns := [1, 1, 1, 1, 1, 1, 1, 1, 1]) (tr := [.reg [], .reg [.none, (.pv (vI sig))], .dec false, .reg [.none, (.pv (vI sig1))], .dec true, dr 4 2 [.none, (.pv neg.pv), .none, (.pv neg1.pv)], .reg [.none, .none, (.pv gcd.pv)], .reg [.none, .none, (.pv (.tup [div.pv, div1.pv, (vI div2)]))], .reg [.none, .none, (.pv (.tup [div3.pv, div4.pv, (vI div5)]))], .reg []]) (cj h1 (cj (deq_f h2) (cj h3 (cj (dlt_t h4) (cj h5 (cj h6 (cj h7 (cj h8 (cj h9 True.intro))))))))) (by kernel_rfl))
theorem e2 (n d : AWhole) (sig sig1 : Int) (gcd div div1 : AWhole) (div2 : Int) (div3 div4 : AWhole) (div5 : Int) (h1 : Contract prg 65 [n.pv] (vI sig)) (h2 : sig ≠ 0) (h3 : Contract prg 65 [d.pv] (vI sig1)) (h4 : 0 ≤ sig1) (h5 : Contract prg 74 [n.pv, d.pv] gcd.pv) (h6 : Contract prg 138 [n.pv, gcd.pv] (.tup [div.pv, div1.pv, (vI div2)])) (h7 : Contract prg 138 [d.pv, gcd.pv] (.tup [div3.pv, div4.pv, (vI div5)])) : Contract prg 113 [n.pv, d.pv] ((⟨div.neg, div.mag, div3.mag⟩ : ARat).pv) :=
  Contract.ofL Tryz.func113 (by kernel_rfl) (L.done mixed tabOk (n := 120) (ns := [1, 1, 1, 1, 1, 1, 1]) (tr := [.reg [], .reg [.none, (.pv (vI sig))], .dec false, .reg [.none, (.pv (vI sig1))], .dec false, .reg [.none, .none, (.pv gcd.pv)], .reg [.none, .none, (.pv (.tup [div.pv, div1.pv, (vI div2)]))], .reg [.none, .none, (.pv (.tup [div3.pv, div4.pv, (vI div5)]))], .reg []]) (cj h1 (cj (deq_f h2) (cj h3 (cj (dlt_f h4) (cj h5 (cj h6 (cj h7 True.intro))))))) (by kernel_rfl))
end linkworkref02_form

namespace fraction_Floor
@[reducible] noncomputable def fn : Func := Tryz.f117
theorem e0 (a : ARat) (par par1 div div1 : AWhole) (div2 : Option Int) (h1 : Contract prg 78 [a.pv] (.tup [par.pv, par1.pv])) (h2 : Contract prg 124 [par.pv, par1.pv] (.tup [div.pv, div1.pv, (errPV div2)])) : Contract prg 117 [a.pv] div.pv :=
  Contract.ofL Tryz.func117 (by kernel_rfl) (L.done mixed tabOk (n := 84) (ns := [1, 1]) (tr := [.reg [], .reg [.none, (.pv (.tup [par.pv, par1.pv]))], .reg [.none, .none, (.pv (.tup [div.pv, div1.pv, (errPV div2)]))], .reg []]) (cj h1 (cj h2 True.intro)) (by kernel_rfl))
end fraction_Floor

namespace fraction_Min
@[reducible] noncomputable def fn : Func := Tryz.f135
theorem e0 (a b : ARat) (cmp : Int) (par par1 : AWhole) (forV : ARat) (h1 : Contract prg 38 [a.pv, b.pv] (vI cmp)) (h2 : cmp ≤ 0) (h3 : Contract prg 78 [a.pv] (.tup [par.pv, par1.pv])) (h4 : Contract prg 79 [par.pv, par1.pv] forV.pv) : Contract prg 135 [a.pv, b.pv] forV.pv :=
  Contract.ofL Tryz.func135 (by kernel_rfl) (L.done mixed tabOk (n := 84) (ns := [1, 1, 1, 1]) (tr := [.reg [], .reg [.none, .none, (.pv (vI cmp))], .dec true, .reg [.none, (.pv (.tup [par.pv, par1.pv])), .none, .none, (.pv forV.pv)]]) (cj h1 (cj (dle_t h2) (cj h3 (cj h4 True.intro)))) (by kernel_rfl))
theorem e1 (a b : ARat) (cmp : Int) (par par1 : AWhole) (forV : ARat) (h1 : Contract prg 38 [a.pv, b.pv] (vI cmp)) (h2 : 0 < cmp) (h3 : Contract prg 78 [b.pv] (.tup [par.pv, par1.pv])) (h4 : Contract prg 79 [par.pv, par1.pv] forV.pv) : Contract prg 135 [a.pv, b.pv] forV.pv :=
  Contract.ofL Tryz.func135 (by kernel_rfl) (L.done mixed tabOk (n := 87) (ns := [1, 1, 1, 1]) (tr := [.reg [], .reg [.none, .none, (.pv (vI cmp))], .dec false, .reg [.none, (.pv (.tup [par.pv, par1.pv])), .none, .none, (.pv forV.pv)]]) (cj h1 (cj (dle_f h2) (cj h3 (cj h4 True.intro)))) (by kernel_rfl))
end fraction_Min

namespace fraction_Max
@[reducible] noncomputable def fn : Func := Tryz.f136
theorem e0 (a b : ARat) (cmp : Int) (par par1 : AWhole) (forV : ARat) (h1 : Contract prg 38 [a.pv, b.pv] (vI cmp)) (h2 : 0 ≤ cmp) (h3 : Contract prg 78 [a.pv] (.tup [par.pv, par1.pv])) (h4 : Contract prg 79 [par.pv, par1.pv] forV.pv) : Contract prg 136 [a.pv, b.pv] forV.pv :=
  Contract.ofL Tryz.func136 (by kernel_rfl) (L.done mixed tabOk (n := 84) (ns := [1, 1, 1, 1]) (tr := [.reg [], .reg [.none, .none, (.pv (vI cmp))], .dec true, .reg [.none, (.pv (.tup [par.pv, par1.pv])), .none, .none, (.pv forV.pv)]]) (cj h1 (cj (dle_t h2) (cj h3 (cj h4 True.intro)))) (by kernel_rfl))
theorem e1 (a b : ARat) (cmp : Int) (par par1 : AWhole) (forV : ARat) (h1 : Contract prg 38 [a.pv, b.pv] (vI cmp)) (h2 : cmp < 0) (h3 : Contract prg 78 [b.pv] (.tup [par.pv, par1.pv])) (h4 : Contract prg 79 [par.pv, par1.pv] forV.pv) : Contract prg 136 [a.pv, b.pv] forV.pv :=
  Contract.ofL Tryz.func136 (by kernel_rfl) (L.done mixed tabOk (n := 87) (ns := [1, 1, 1, 1]) (tr := [.reg [], .reg [.none, .none, (.pv (vI cmp))], .dec false, .reg [.none, (.pv (.tup [par.pv, par1.pv])), .none, .none, (.pv forV.pv)]]) (cj h1 (cj (dle_f h2) (cj h3 (cj h4 True.intro)))) (by kernel_rfl))
end fraction_Max

namespace linkworkref02_Min
@[reducible] noncomputable def fn : Func := Tryz.f168
theorem e0 (a b : ARat) (cmp : Int) (add : ARat) (h1 : Contract prg 68 [a.pv, b.pv] (vI cmp)) (h2 : cmp ≤ 0) (h3 : Contract prg 105 [a.pv, (⟨false, [], []⟩ : ARat).pv] add.pv) : Contract prg 168 [a.pv, b.pv] add.pv :=
  Contract.ofL Tryz.func168 (by kernel_rfl) (L.done mixed tabOk (n := 84) (ns := [1, 1, 1]) (tr := [.reg [], .reg [.none, .none, (.pv (vI cmp))], .dec true, .reg [.none, .none, (.pv add.pv)]]) (cj h1 (cj (dle_t h2) (cj h3 True.intro))) (by kernel_rfl))
theorem e1 (a b : ARat) (cmp : Int) (add : ARat) (h1 : Contract prg 68 [a.pv, b.pv] (vI cmp)) (h2 : 0 < cmp) (h3 : Contract prg 105 [b.pv, (⟨false, [], []⟩ : ARat).pv] add.pv) : Contract prg 168 [a.pv, b.pv] add.pv :=
  Contract.ofL Tryz.func168 (by kernel_rfl) (L.done mixed tabOk (n := 87) (ns := [1, 1, 1]) (tr := [.reg [], .reg [.none, .none, (.pv (vI cmp))], .dec false, .reg [.none, .none, (.pv add.pv)]]) (cj h1 (cj (dle_f h2) (cj h3 True.intro))) (by kernel_rfl))
end linkworkref02_Min

namespace linkworkref02_Max
@[reducible] noncomputable def fn : Func := Tryz.f169
theorem e0 (a b : ARat) (cmp : Int) (add : ARat) (h1 : Contract prg 68 [a.pv, b.pv] (vI cmp)) (h2 : 0 ≤ cmp) (h3 : Contract prg 105 [a.pv, (⟨false, [], []⟩ : ARat).pv] add.pv) : Contract prg 169 [a.pv, b.pv] add.pv :=
  Contract.ofL Tryz.func169 (by kernel_rfl) (L.done mixed tabOk (n := 84) (ns := [1, 1, 1]) (tr := [.reg [], .reg [.none, .none, (.pv (vI cmp))], .dec true, .reg [.none, .none, (.pv add.pv)]]) (cj h1 (cj (dle_t h2) (cj h3 True.intro))) (by kernel_rfl))
theorem e1 (a b : ARat) (cmp : Int) (add : ARat) (h1 : Contract prg 68 [a.pv, b.pv] (vI cmp)) (h2 : cmp < 0) (h3 : Contract prg 105 [b.pv, (⟨false, [], []⟩ : ARat).pv] add.pv) : Contract prg 169 [a.pv, b.pv] add.pv :=
  Contract.ofL Tryz.func169 (by kernel_rfl) (L.done mixed tabOk (n := 87) (ns := [1, 1, 1]) (tr := [.reg [], .reg [.none, .none, (.pv (vI cmp))], .dec false, .reg [.none, .none, (.pv add.pv)]]) (cj h1 (cj (dle_f h2) (cj h3 True.intro))) (by kernel_rfl))
end linkworkref02_Max

end Go.Proofs.YtcgbmnkgmepikaaGreat.Sym.Path


/-
  CFr: what the functions of fraction return.
-/
namespace Go.Proofs.YtcgbmnkgmepikaaGreat.Sym
open Go Path CInt
set_option linter.unusedVariables false

theorem valid_e0 {a : ARat} (h1 : a.num.length = 0) (h2 : a.den.length = 0) : a.valid = !a.neg := by
  unfold ARat.valid; rw [isEmpty_len, isEmpty_len, decide_eq_true h1, decide_eq_true h2]; rfl
theorem valid_e1 {a : ARat} (h1 : a.num.length = 0) (h2 : a.den.length ≠ 0) : a.valid = false := by
  unfold ARat.valid; rw [isEmpty_len, isEmpty_len, decide_eq_true h1, decide_eq_false h2]; rfl
theorem valid_e2 {a : ARat} (h1 : a.num.length ≠ 0) (h2 : a.den.length = 0) : a.valid = false := by
  unfold ARat.valid; rw [isEmpty_len, isEmpty_len, decide_eq_false h1, decide_eq_true h2]; rfl
theorem valid_e3 {a : ARat} (h1 : a.num.length ≠ 0) (h2 : a.den.length ≠ 0) : a.valid = (cn a.num && (cn a.den && Nat.beq (Nat.gcd (nat a.num) (nat a.den)) 1)) := by
  unfold ARat.valid; rw [isEmpty_len, isEmpty_len, decide_eq_false h1, decide_eq_false h2]; rfl

theorem word_valid {m : Words} (h : m.length ≠ 0) : (⟨false, m⟩ : AWhole).valid = cn m := by
  unfold AWhole.valid
  rw [isEmpty_len, decide_eq_false h]; rfl

theorem word_val {m : Words} (h : m.length ≠ 0) (hc : cn m = true) : (⟨false, m⟩ : AWhole).val = (nat m : Int) := by
  unfold AWhole.val
  rw [word_valid h, hc]; rfl

theorem cmp_one (g : Nat) : (cmpI (g : Int) 1 == 0) = Nat.beq g 1 := by
  by_cases h : g = 1
  · subst h; rfl
  · rw [beq_fal.2 h]
    unfold cmpI
    split
    · rfl
    · rw [if_neg (by omega)]; rfl

theorem parts_of {a : ARat} (hv : a.valid = true) (h0 : a.num.length ≠ 0) : Sym.whole a.val.num = ⟨a.neg, a.num⟩ ∧ Sym.whole (a.val.den : Int) = ⟨false, a.den⟩ := by
  have h0' : a.num ≠ [] := by intro e; rw [e] at h0; exact h0 rfl
  obtain ⟨g1, g2, g3, g4⟩ := valid_parts hv h0'
  obtain ⟨e1, e2⟩ := val_parts hv h0'
  have hp := cn_pos g2 h0'
  rw [e1, e2]
  refine ⟨?_, ?_⟩
  · unfold Sym.whole
    cases hn : a.neg
    · simp only [cond_false, Int.natAbs_natCast, words_nat g2, AWhole.mk.injEq, and_true, decide_eq_false_iff_not]; omega
    · simp only [cond_true, Int.natAbs_neg, Int.natAbs_natCast, words_nat g2, AWhole.mk.injEq, and_true, decide_eq_true_eq]; omega
  · unfold Sym.whole
    simp only [Int.natAbs_natCast, words_nat g3, AWhole.mk.injEq, and_true, decide_eq_false_iff_not]; omega

theorem whole_nat (n : Nat) : Sym.whole (n : Int) = ⟨false, words n⟩ := by
  unfold Sym.whole
  rw [Int.natAbs_natCast, decide_eq_false (by omega)]

theorem gcd_wl {a b : Int} {k : Nat} (ha : wl a ≤ k) (hb : wl b ≤ k) : wl ((Nat.gcd a.natAbs b.natAbs : Nat) : Int) ≤ k := by
  by_cases h : b = 0
  · subst h
    rw [Int.natAbs_zero, Nat.gcd_zero_right]
    show (words _).length ≤ k
    rw [Int.natAbs_natCast]; exact ha
  · exact Nat.le_trans (wl_le_mono (by rw [Int.natAbs_natCast]; exact Nat.le_of_dvd (by omega) (Nat.gcd_dvd_right _ _))) hb

/-- The fraction in lowest terms. -/
theorem formed {n d : Int} (hn : n ≠ 0) (hd : 0 < d) (g : Nat) (hg : g = Nat.gcd n.natAbs d.natAbs) : mkR (Rat.divInt n d) = ⟨decide (n / (g : Int) < 0), (Sym.whole (n / (g : Int))).mag, (Sym.whole (d / (g : Int))).mag⟩ := by
  obtain ⟨e1, e2⟩ := divInt_parts (n := n) hd g hg
  have hne : Rat.divInt n d ≠ 0 := by
    intro e
    rw [e] at e1
    have e1 : (0 : Int) = n / (g : Int) := e1
    have h1 : (g : Int) ∣ n := by rw [hg]; exact Int.ofNat_dvd_left.2 (Nat.gcd_dvd_left _ _)
    have := Int.ediv_mul_cancel h1
    rw [← e1] at this
    omega
  rw [mkR_ne hne, e1]
  unfold Sym.whole
  simp only [ARat.mk.injEq, true_and]
  rw [← e2, Int.natAbs_natCast]

theorem formed_neg {n : Int} (hn : n ≠ 0) (g : Nat) (hg : g ∣ n.natAbs) : decide (n / (g : Int) < 0) = decide (n < 0) ∧ (n / (g : Int)).natAbs = ((n.natAbs : Int) / (g : Int)).natAbs := by
  have h1 : (g : Int) ∣ n := Int.ofNat_dvd_left.2 hg
  have h2 := Int.ediv_mul_cancel h1
  have hg0 : 0 < g := Nat.pos_of_dvd_of_pos hg (by omega)
  refine ⟨?_, ?_⟩
  · congr 1
    refine propext ⟨fun h => ?_, fun h => ?_⟩
    · have := Int.mul_neg_of_neg_of_pos h (show (0 : Int) < g by omega)
      omega
    · exact Int.ediv_neg_of_neg_of_pos h (by omega)
  · rw [Int.natAbs_ediv_of_dvd h1, Int.natAbs_natCast, ← Int.natCast_ediv, Int.natAbs_natCast]

namespace CFr

theorem one : Contract prg 83 [] (Sym.whole 1).pv := fraction_one.e0 _ (CInt.Of 1 (by unfold InI64; omega))

theorem Valid (a : ARat) (h : FitR a) : Contract prg 50 [a.pv] (vB a.valid) := by
  obtain ⟨l1, l2⟩ := h
  by_cases h1 : a.num.length = 0
  · by_cases h2 : a.den.length = 0
    · rw [valid_e0 h1 h2]; exact fraction_Valid.e0 a h1 h2
    · rw [valid_e1 h1 h2]; exact fraction_Valid.e1 a h1 h2
  · by_cases h2 : a.den.length = 0
    · rw [valid_e2 h1 h2]; exact fraction_Valid.e2 a h1 h2
    · rw [valid_e3 h1 h2]
      have v1 := CInt.Valid ⟨false, a.num⟩ (show a.num.length ≤ _ by omega)
      have v2 := CInt.Valid ⟨false, a.den⟩ (show a.den.length ≤ _ by omega)
      rw [word_valid h1] at v1
      rw [word_valid h2] at v2
      cases hc1 : cn a.num with
      | false => rw [Bool.false_and]; exact fraction_Valid.e3 a _ h1 h2 v1 hc1
      | true =>
        rw [Bool.true_and]
        cases hc2 : cn a.den with
        | false => rw [Bool.false_and]; exact fraction_Valid.e4 a _ _ h1 h2 v1 hc1 v2 hc2
        | true =>
          have hg := CInt.Gcd ⟨false, a.num⟩ ⟨false, a.den⟩ (show a.num.length ≤ _ by omega) (show a.den.length ≤ _ by omega)
          rw [word_val h1 hc1, word_val h2 hc2, Int.natAbs_natCast, Int.natAbs_natCast] at hg
          have gl := gcd_wl (a := (nat a.num : Int)) (b := (nat a.den : Int)) (k := 274877906944) (by show (words _).length ≤ _; rw [Int.natAbs_natCast, words_nat hc1]; exact l1) (by show (words _).length ≤ _; rw [Int.natAbs_natCast, words_nat hc2]; exact l2)
          rw [Int.natAbs_natCast, Int.natAbs_natCast] at gl
          have hc := CInt.Cmp (Sym.whole (Nat.gcd (nat a.num) (nat a.den) : Nat)) (Sym.whole 1) (show wl _ ≤ _ by omega) (show wl 1 ≤ _ by decide)
          rw [whole_val, whole_val] at hc
          rw [Bool.true_and, ← cmp_one]
          exact fraction_Valid.e5 a _ _ _ _ _ h1 h2 v1 hc1 v2 hc2 hg one hc

theorem Parts (a : ARat) (h : FitR a) : Contract prg 78 [a.pv] (.tup [(Sym.whole a.val.num).pv, (Sym.whole (a.val.den : Int)).pv]) := by
  have hv := Valid a h
  cases hc : a.valid with
  | false => rw [val_inv hc]; exact fraction_Parts.e0 a _ _ hv hc one
  | true =>
    by_cases h0 : a.num.length = 0
    · rw [val_nil (List.eq_nil_of_length_eq_zero h0)]; exact fraction_Parts.e1 a _ _ hv hc h0 one
    · obtain ⟨e1, e2⟩ := parts_of hc h0
      rw [e1, e2]
      exact fraction_Parts.e2 a _ hv hc h0 (by have := h.1; simp; omega) (by have := h.2; simp; omega)

theorem form (n d : AWhole) (hn : n.mag.length ≤ 1099511627776) (hd : d.mag.length ≤ 1099511627776) (h0 : d.val ≠ 0) : Contract prg 79 [n.pv, d.pv] (mkR (Rat.divInt n.val d.val)).pv := by
  have sn := CInt.Sign n hn
  have sd := CInt.Sign d hd
  have wn := val_natAbs_le n
  have wd' := val_natAbs_le d
  by_cases hz : n.val = 0
  · rw [hz, Rat.zero_divInt]
    exact fraction_form.e0 n d _ sn (by rw [hz]; rfl)
  · have hsn : sgn n.val ≠ 0 := by unfold sgn cmpI; split <;> (try split) <;> omega
    by_cases hneg : d.val < 0
    · have e : Rat.divInt n.val d.val = Rat.divInt (-n.val) (-d.val) := by rw [Rat.divInt_neg', Int.neg_neg]
      have n1 := CInt.Neg n hn
      have d1 := CInt.Neg d hd
      have l1 : (Sym.whole (-n.val)).mag.length ≤ 1099511627776 := by show wl _ ≤ _; rw [wl_neg]; omega
      have l2 : (Sym.whole (-d.val)).mag.length ≤ 1099511627776 := by show wl _ ≤ _; rw [wl_neg]; omega
      have g := CInt.Gcd _ _ l1 l2
      rw [whole_val, whole_val] at g
      have hgl := gcd_wl (a := -n.val) (b := -d.val) (k := 1099511627776) (by rw [wl_neg]; omega) (by rw [wl_neg]; omega)
      have s2 := CInt.Sign _ l1
      rw [whole_val] at s2
      rw [e, formed (by omega) (by omega) _ rfl]
      obtain ⟨f1, f2⟩ := formed_neg (n := -n.val) (by omega) (Nat.gcd (-n.val).natAbs (-d.val).natAbs) (Nat.gcd_dvd_left _ _)
      have hg0 : ((Nat.gcd (-n.val).natAbs (-d.val).natAbs : Nat) : Int) ≠ 0 := by
        have := Nat.gcd_pos_of_pos_left (-d.val).natAbs (show 0 < (-n.val).natAbs by omega)
        omega
      rw [f1, show (Sym.whole (-n.val / ((Nat.gcd (-n.val).natAbs (-d.val).natAbs : Nat) : Int))).mag = (Sym.whole (((-n.val).natAbs : Int) / ((Nat.gcd (-n.val).natAbs (-d.val).natAbs : Nat) : Int))).mag from by unfold Sym.whole; rw [f2]]
      generalize hG : ((Nat.gcd (-n.val).natAbs (-d.val).natAbs : Nat) : Int) = G at *
      have dd := CInt.Div (Sym.whole (-d.val)) (Sym.whole G) l2 hgl (by rw [whole_val]; exact hg0)
      rw [whole_val, whole_val] at dd
      by_cases hs : -n.val < 0
      · have n2 := CInt.Neg _ l1
        rw [whole_val] at n2
        have dn := CInt.Div (Sym.whole (- -n.val)) (Sym.whole G) (by show wl _ ≤ _; rw [wl_neg, wl_neg]; omega) hgl (by rw [whole_val]; exact hg0)
        rw [whole_val, whole_val] at dn
        rw [show ((-n.val).natAbs : Int) = - -n.val from by omega]
        have := fraction_form.e1 n d _ _ _ _ _ _ _ _ _ none _ _ none sn hsn sd (by unfold sgn cmpI; rw [if_pos hneg]; omega) n1 d1 g s2 (by unfold sgn cmpI; rw [if_pos hs]; omega) n2 dn dd
        rw [show decide (sgn (-n.val) < 0) = decide (-n.val < 0) from by unfold sgn cmpI; rw [if_pos hs, decide_eq_true hs]; rfl] at this
        exact this
      · have dn := CInt.Div (Sym.whole (-n.val)) (Sym.whole G) l1 hgl (by rw [whole_val]; exact hg0)
        rw [whole_val, whole_val] at dn
        rw [show ((-n.val).natAbs : Int) = -n.val from by omega]
        have hs2 : sgn (-n.val) = 1 := by unfold sgn cmpI; rw [if_neg hs, if_neg (by omega)]
        have := fraction_form.e2 n d _ _ _ _ _ _ _ _ none _ _ none sn hsn sd (by unfold sgn cmpI; rw [if_pos hneg]; omega) n1 d1 g s2 (by rw [hs2]; omega) dn dd
        rw [show decide (sgn (-n.val) < 0) = decide (-n.val < 0) from by rw [hs2, decide_eq_false hs]; rfl] at this
        exact this
    · have g := CInt.Gcd _ _ hn hd
      have hgl := gcd_wl (a := n.val) (b := d.val) (k := 1099511627776) (by omega) (by omega)
      rw [formed hz (by omega) _ rfl]
      obtain ⟨f1, f2⟩ := formed_neg hz (Nat.gcd n.val.natAbs d.val.natAbs) (Nat.gcd_dvd_left _ _)
      have hg0 : ((Nat.gcd n.val.natAbs d.val.natAbs : Nat) : Int) ≠ 0 := by
        have := Nat.gcd_pos_of_pos_left d.val.natAbs (show 0 < n.val.natAbs by omega)
        omega
      rw [f1, show (Sym.whole (n.val / ((Nat.gcd n.val.natAbs d.val.natAbs : Nat) : Int))).mag = (Sym.whole ((n.val.natAbs : Int) / ((Nat.gcd n.val.natAbs d.val.natAbs : Nat) : Int))).mag from by unfold Sym.whole; rw [f2]]
      generalize hG : ((Nat.gcd n.val.natAbs d.val.natAbs : Nat) : Int) = G at *
      have dd := CInt.Div d (Sym.whole G) hd hgl (by rw [whole_val]; exact hg0)
      rw [whole_val] at dd
      have hsd : 0 ≤ sgn d.val := by unfold sgn cmpI; rw [if_neg hneg]; split <;> omega
      by_cases hs : n.val < 0
      · have n2 := CInt.Neg _ hn
        have dn := CInt.Div (Sym.whole (-n.val)) (Sym.whole G) (by show wl _ ≤ _; rw [wl_neg]; omega) hgl (by rw [whole_val]; exact hg0)
        rw [whole_val, whole_val] at dn
        rw [show (n.val.natAbs : Int) = -n.val from by omega]
        have := fraction_form.e3 n d _ _ _ _ _ _ _ none _ _ none sn hsn sd hsd g sn (by unfold sgn cmpI; rw [if_pos hs]; omega) n2 dn dd
        rw [show decide (sgn n.val < 0) = decide (n.val < 0) from by unfold sgn cmpI; rw [if_pos hs, decide_eq_true hs]; rfl] at this
        exact this
      · have dn := CInt.Div n (Sym.whole G) hn hgl (by rw [whole_val]; exact hg0)
        rw [whole_val] at dn
        rw [show (n.val.natAbs : Int) = n.val from by omega]
        have hs2 : sgn n.val = 1 := by unfold sgn cmpI; rw [if_neg hs, if_neg (by omega)]
        have := fraction_form.e4 n d _ _ _ _ _ _ none _ _ none sn hsn sd hsd g sn (by rw [hs2]; omega) dn dd
        rw [show decide (sgn n.val < 0) = decide (n.val < 0) from by rw [hs2, decide_eq_false hs]; rfl] at this
        exact this

/-- The fraction of two integers of known length. -/
theorem form' (n d : Int) (hn : wl n ≤ 1099511627776) (hd : wl d ≤ 1099511627776) (h0 : d ≠ 0) : Contract prg 79 [(Sym.whole n).pv, (Sym.whole d).pv] (mkR (Rat.divInt n d)).pv := by
  have := form (Sym.whole n) (Sym.whole d) hn hd (by rw [whole_val]; exact h0)
  rwa [whole_val, whole_val] at this

theorem From (n d : AWhole) (hn : n.mag.length ≤ 1099511627776) (hd : d.mag.length ≤ 1099511627776) (h0 : d.val ≠ 0) : Contract prg 111 [n.pv, d.pv] (.tup [(mkR (Rat.divInt n.val d.val)).pv, .nilI]) :=
  fraction_From.e1 n d _ _ (CInt.Sign d hd) (by unfold sgn cmpI; split <;> (try split) <;> omega) (form n d hn hd h0)
theorem From0 (n d : AWhole) (hd : d.mag.length ≤ 1099511627776) (h0 : d.val = 0) : Contract prg 111 [n.pv, d.pv] (.tup [(mkR 0).pv, (.iface 57 (vI 8))]) :=
  fraction_From.e0 n d _ (CInt.Sign d hd) (by rw [h0]; rfl)
theorem Of (n : Int) (h : InI64 n) : Contract prg 33 [vI n] (mkR (n : Rat)).pv := by
  have hw : wl n ≤ 2 := wl_le (by unfold InI64 at h; omega)
  have := form' n 1 (by omega) (by decide) (by omega)
  rw [show Rat.divInt n 1 = (n : Rat) from by rw [Rat.divInt_eq_div]; grind] at this
  exact fraction_Of.e0 n _ _ _ (CInt.Of n h) one this
theorem Neg (a : ARat) (h : FitR a) : Contract prg 110 [a.pv] (mkR (-a.val)).pv := by
  have hp := Parts a h
  have hh := ht_fit h.1 h.2 (by omega)
  have h1 := ht_num a.val
  have h2 := ht_den a.val
  have hn := CInt.Neg (Sym.whole a.val.num) (show wl _ ≤ _ by omega)
  rw [whole_val] at hn
  have hf := form' (-a.val.num) a.val.den (by rw [wl_neg]; omega) (by omega) (by have := a.val.den_nz; omega)
  rw [← Rat.neg_divInt, Rat.num_divInt_den] at hf
  exact fraction_Neg.e0 a _ _ _ _ hp hn hf
theorem Sign (a : ARat) (h : FitR a) : Contract prg 39 [a.pv] (vI (cmpR a.val 0)) := by
  have hp := Parts a h
  have hh := ht_fit h.1 h.2 (by omega)
  have h1 := ht_num a.val
  have hs := CInt.Sign (Sym.whole a.val.num) (show wl _ ≤ _ by omega)
  rw [whole_val, cmpR_zero] at hs
  exact fraction_Sign.e0 a _ _ _ hp hs
theorem Add (a b : ARat) (ha : FitR a) (hb : FitR b) : Contract prg 32 [a.pv, b.pv] (mkR (a.val + b.val)).pv := by
  have pa := Parts a ha
  have pb := Parts b hb
  have la := ht_fit ha.1 ha.2 (by omega)
  have lb := ht_fit hb.1 hb.2 (by omega)
  have h1 := ht_num a.val
  have h2 := ht_den a.val
  have h3 := ht_num b.val
  have h4 := ht_den b.val
  have m1 := CInt.Mul (Sym.whole a.val.num) (Sym.whole (b.val.den : Int)) (show wl _ ≤ _ by omega) (show wl _ ≤ _ by omega)
  have m2 := CInt.Mul (Sym.whole b.val.num) (Sym.whole (a.val.den : Int)) (show wl _ ≤ _ by omega) (show wl _ ≤ _ by omega)
  have m3 := CInt.Mul (Sym.whole (a.val.den : Int)) (Sym.whole (b.val.den : Int)) (show wl _ ≤ _ by omega) (show wl _ ≤ _ by omega)
  rw [whole_val, whole_val] at m1 m2 m3
  have w1 := wl_mul a.val.num b.val.den
  have w2 := wl_mul b.val.num a.val.den
  have w3 := wl_mul (a.val.den : Int) b.val.den
  have s := CInt.Add (Sym.whole (a.val.num * b.val.den)) (Sym.whole (b.val.num * a.val.den)) (show wl _ ≤ _ by omega) (show wl _ ≤ _ by omega)
  rw [whole_val, whole_val] at s
  have w4 := wl_add (a.val.num * b.val.den) (b.val.num * a.val.den)
  have hf := form' (a.val.num * b.val.den + b.val.num * a.val.den) ((a.val.den : Int) * (b.val.den : Int)) (by omega) (by omega) (by
    have := a.val.den_nz
    have := b.val.den_nz
    exact Int.mul_ne_zero (by omega) (by omega))
  rw [← Int.natCast_mul, Rat.divInt_ofNat, ← Rat.add_def', Int.natCast_mul] at hf
  exact fraction_Add.e0 a b _ _ _ _ _ _ _ _ _ pa pb m1 m2 s m3 hf
theorem Sub (a b : ARat) (ha : FitR a) (hb : FitR b) : Contract prg 51 [a.pv, b.pv] (mkR (a.val - b.val)).pv := by
  have hn := Neg b hb
  have lb := ht_fit hb.1 hb.2 (by omega)
  have hs := Add a (mkR (-b.val)) ha (fit_mkR (by rw [ht_neg]; exact lb))
  rw [mkR_val, ← Rat.sub_eq_add_neg] at hs
  exact fraction_Sub.e0 a b _ _ hn hs
theorem Mul (a b : ARat) (ha : FitR a) (hb : FitR b) : Contract prg 54 [a.pv, b.pv] (mkR (a.val * b.val)).pv := by
  have pa := Parts a ha
  have pb := Parts b hb
  have la := ht_fit ha.1 ha.2 (by omega)
  have lb := ht_fit hb.1 hb.2 (by omega)
  have h1 := ht_num a.val
  have h2 := ht_den a.val
  have h3 := ht_num b.val
  have h4 := ht_den b.val
  have m1 := CInt.Mul (Sym.whole a.val.num) (Sym.whole b.val.num) (show wl _ ≤ _ by omega) (show wl _ ≤ _ by omega)
  have m3 := CInt.Mul (Sym.whole (a.val.den : Int)) (Sym.whole (b.val.den : Int)) (show wl _ ≤ _ by omega) (show wl _ ≤ _ by omega)
  rw [whole_val, whole_val] at m1 m3
  have w1 := wl_mul a.val.num b.val.num
  have w3 := wl_mul (a.val.den : Int) b.val.den
  have hf := form' (a.val.num * b.val.num) ((a.val.den : Int) * (b.val.den : Int)) (by omega) (by omega) (by
    have := a.val.den_nz
    have := b.val.den_nz
    exact Int.mul_ne_zero (by omega) (by omega))
  rw [← Int.natCast_mul, Rat.divInt_ofNat, ← Rat.mul_def', Int.natCast_mul] at hf
  exact fraction_Mul.e0 a b _ _ _ _ _ _ _ pa pb m1 m3 hf
theorem Div (a b : ARat) (ha : FitR a) (hb : FitR b) (h0 : b.val ≠ 0) : Contract prg 52 [a.pv, b.pv] (.tup [(mkR (a.val / b.val)).pv, .nilI]) := by
  have pa := Parts a ha
  have pb := Parts b hb
  have la := ht_fit ha.1 ha.2 (by omega)
  have lb := ht_fit hb.1 hb.2 (by omega)
  have h1 := ht_num a.val
  have h2 := ht_den a.val
  have h3 := ht_num b.val
  have h4 := ht_den b.val
  have m1 := CInt.Mul (Sym.whole a.val.num) (Sym.whole (b.val.den : Int)) (show wl _ ≤ _ by omega) (show wl _ ≤ _ by omega)
  have m3 := CInt.Mul (Sym.whole (a.val.den : Int)) (Sym.whole b.val.num) (show wl _ ≤ _ by omega) (show wl _ ≤ _ by omega)
  rw [whole_val, whole_val] at m1 m3
  have w1 := wl_mul a.val.num b.val.den
  have w3 := wl_mul (a.val.den : Int) b.val.num
  have hf := From (Sym.whole (a.val.num * b.val.den)) (Sym.whole ((a.val.den : Int) * b.val.num)) (show wl _ ≤ _ by omega) (show wl _ ≤ _ by omega) (by
    rw [whole_val]
    have := a.val.den_nz
    refine Int.mul_ne_zero (by omega) (fun e => h0 (Rat.num_eq_zero.1 e)))
  rw [whole_val, whole_val, ← Rat.divInt_mul_divInt, Rat.num_divInt_den, ← Rat.inv_def, ← Rat.div_def] at hf
  exact fraction_Div.e0 a b _ _ _ _ _ _ _ none pa pb m1 m3 hf
theorem Div0 (a b : ARat) (ha : FitR a) (hb : FitR b) (h0 : b.val = 0) : Contract prg 52 [a.pv, b.pv] (.tup [(mkR 0).pv, (.iface 57 (vI 8))]) := by
  have pa := Parts a ha
  have pb := Parts b hb
  have la := ht_fit ha.1 ha.2 (by omega)
  have lb := ht_fit hb.1 hb.2 (by omega)
  have h1 := ht_num a.val
  have h2 := ht_den a.val
  have h3 := ht_num b.val
  have h4 := ht_den b.val
  have m1 := CInt.Mul (Sym.whole a.val.num) (Sym.whole (b.val.den : Int)) (show wl _ ≤ _ by omega) (show wl _ ≤ _ by omega)
  have m3 := CInt.Mul (Sym.whole (a.val.den : Int)) (Sym.whole b.val.num) (show wl _ ≤ _ by omega) (show wl _ ≤ _ by omega)
  rw [whole_val, whole_val] at m1 m3
  have w3 := wl_mul (a.val.den : Int) b.val.num
  have hf := From0 (Sym.whole (a.val.num * b.val.den)) (Sym.whole ((a.val.den : Int) * b.val.num)) (show wl _ ≤ _ by omega) (by
    rw [whole_val, h0]; simp)
  exact fraction_Div.e0 a b _ _ _ _ _ _ _ (some 8) pa pb m1 m3 hf
theorem Floor (a : ARat) (h : FitR a) : Contract prg 117 [a.pv] (Sym.whole a.val.floor).pv := by
  have hp := Parts a h
  have hh := ht_fit h.1 h.2 (by omega)
  have h1 := ht_num a.val
  have h2 := ht_den a.val
  have hd := CInt.Div (Sym.whole a.val.num) (Sym.whole (a.val.den : Int)) (show wl _ ≤ _ by omega) (show wl _ ≤ _ by omega) (by rw [whole_val]; have := a.val.den_nz; omega)
  rw [whole_val, whole_val, ← Rat.floor_def] at hd
  exact fraction_Floor.e0 a _ _ _ _ none hp hd
theorem Cmp (a b : ARat) (ha : FitR a) (hb : FitR b) : Contract prg 38 [a.pv, b.pv] (vI (cmpR a.val b.val)) := by
  have pa := Parts a ha
  have pb := Parts b hb
  have la := ht_fit ha.1 ha.2 (by omega)
  have lb := ht_fit hb.1 hb.2 (by omega)
  have h1 := ht_num a.val
  have h2 := ht_den a.val
  have h3 := ht_num b.val
  have h4 := ht_den b.val
  have m1 := CInt.Mul (Sym.whole a.val.num) (Sym.whole (b.val.den : Int)) (show wl _ ≤ _ by omega) (show wl _ ≤ _ by omega)
  have m2 := CInt.Mul (Sym.whole b.val.num) (Sym.whole (a.val.den : Int)) (show wl _ ≤ _ by omega) (show wl _ ≤ _ by omega)
  rw [whole_val, whole_val] at m1 m2
  have w1 := wl_mul a.val.num b.val.den
  have w2 := wl_mul b.val.num a.val.den
  have hc := CInt.Cmp (Sym.whole (a.val.num * b.val.den)) (Sym.whole (b.val.num * a.val.den)) (show wl _ ≤ _ by omega) (show wl _ ≤ _ by omega)
  rw [whole_val, whole_val, cmpR_int] at hc
  exact fraction_Cmp.e0 a b _ _ _ _ _ _ _ pa pb m1 m2 hc
theorem copyR (a : ARat) (h : FitR a) : Contract prg 79 [(Sym.whole a.val.num).pv, (Sym.whole (a.val.den : Int)).pv] (mkR a.val).pv := by
  have hh := ht_fit h.1 h.2 (by omega)
  have h1 := ht_num a.val
  have h2 := ht_den a.val
  have hf := form' a.val.num a.val.den (by omega) (by omega) (by have := a.val.den_nz; omega)
  rwa [Rat.num_divInt_den] at hf

theorem Min (a b : ARat) (ha : FitR a) (hb : FitR b) : Contract prg 135 [a.pv, b.pv] (mkR (minR a.val b.val)).pv := by
  unfold minR
  split
  · rename_i h; exact fraction_Min.e0 a b _ _ _ _ (Cmp a b ha hb) h (Parts a ha) (copyR a ha)
  · rename_i h; exact fraction_Min.e1 a b _ _ _ _ (Cmp a b ha hb) (by omega) (Parts b hb) (copyR b hb)
theorem Max (a b : ARat) (ha : FitR a) (hb : FitR b) : Contract prg 136 [a.pv, b.pv] (mkR (maxR a.val b.val)).pv := by
  unfold maxR
  split
  · rename_i h; exact fraction_Max.e0 a b _ _ _ _ (Cmp a b ha hb) h (Parts a ha) (copyR a ha)
  · rename_i h; exact fraction_Max.e1 a b _ _ _ _ (Cmp a b ha hb) (by omega) (Parts b hb) (copyR b hb)
end CFr
end Go.Proofs.YtcgbmnkgmepikaaGreat.Sym


/-
  CRb: what the functions of linkworkref02 return.
-/
namespace Go.Proofs.YtcgbmnkgmepikaaGreat.Sym
open Go Path CInt
set_option linter.unusedVariables false

namespace CRb

theorem one : Contract prg 75 [] (Sym.whole 1).pv := linkworkref02_one.e0 _ (CRa.Of 1 (by unfold InI64; omega))

theorem plain (m : Words) (h : m.length ≤ 274877906944) : Contract prg 72 [wordsPV m] (vB (!m.isEmpty && cn m)) := by
  rw [isEmpty_len]
  by_cases h0 : m.length = 0
  · rw [decide_eq_true h0, Bool.not_true, Bool.false_and]
    exact linkworkref02_plain.e1 m (by omega)
  · rw [decide_eq_false h0, Bool.not_false, Bool.true_and]
    obtain ⟨v, hv⟩ : ∃ v, m[m.length - 1]? = some v := ⟨_, List.getElem?_eq_getElem (by omega)⟩
    have := linkworkref02_plain.e0 m (m.length - 1) v (by omega) (by unfold InI64; omega) (by omega) hv
    have e : cn m = ((v.toNat : Int) != 0) := by
      have h1 := cn_last hv
      by_cases h2 : v.toNat = 0
      · have h3 : ((v.toNat : Int) != 0) = false := by simp [h2]
        rw [h3]
        cases hc : cn m with
        | true => exact absurd h2 (h1.1 hc)
        | false => rfl
      · have h3 : ((v.toNat : Int) != 0) = true := by simp; omega
        rw [h3]; exact h1.2 h2
    rw [e]; exact this

theorem plain' {m : Words} (h : m.length ≤ 274877906944) (h0 : m.length ≠ 0) : Contract prg 72 [wordsPV m] (vB (cn m)) := by
  have := plain m h
  rwa [isEmpty_len, decide_eq_false h0, Bool.not_false, Bool.true_and] at this

theorem plain0 {m : Words} (h0 : m.length = 0) : Contract prg 72 [wordsPV m] (vB false) := by
  have := plain m (by omega)
  rwa [isEmpty_len, decide_eq_true h0, Bool.not_true, Bool.false_and] at this

theorem Valid (a : ARat) (h : FitR a) : Contract prg 28 [a.pv] (vB a.valid) := by
  obtain ⟨l1, l2⟩ := h
  by_cases h1 : a.num.length = 0
  · by_cases h2 : a.den.length = 0
    · rw [valid_e0 h1 h2]; exact linkworkref02_Valid.e0 a h1 h2
    · rw [valid_e1 h1 h2]; exact linkworkref02_Valid.e3 a _ h1 h2 (plain0 h1) rfl
  · have p1 := plain' l1 h1
    by_cases h2 : a.den.length = 0
    · rw [valid_e2 h1 h2]
      cases hc1 : cn a.num with
      | false => exact linkworkref02_Valid.e6 a _ h1 p1 hc1
      | true => exact linkworkref02_Valid.e5 a _ _ h1 p1 hc1 (plain0 h2) rfl
    · have p2 := plain' l2 h2
      rw [valid_e3 h1 h2]
      cases hc1 : cn a.num with
      | false => rw [Bool.false_and]; exact linkworkref02_Valid.e6 a _ h1 p1 hc1
      | true =>
        rw [Bool.true_and]
        cases hc2 : cn a.den with
        | false => rw [Bool.false_and]; exact linkworkref02_Valid.e5 a _ _ h1 p1 hc1 p2 hc2
        | true =>
          have hg := CRa.Gcd ⟨false, a.num⟩ ⟨false, a.den⟩ (show a.num.length ≤ _ by omega) (show a.den.length ≤ _ by omega)
          rw [word_val h1 hc1, word_val h2 hc2, Int.natAbs_natCast, Int.natAbs_natCast] at hg
          have gl := gcd_wl (a := (nat a.num : Int)) (b := (nat a.den : Int)) (k := 274877906944) (by show (words _).length ≤ _; rw [Int.natAbs_natCast, words_nat hc1]; exact l1) (by show (words _).length ≤ _; rw [Int.natAbs_natCast, words_nat hc2]; exact l2)
          rw [Int.natAbs_natCast, Int.natAbs_natCast] at gl
          have hc := CRa.Cmp (Sym.whole (Nat.gcd (nat a.num) (nat a.den) : Nat)) (Sym.whole 1) (show wl _ < _ by omega) (show wl 1 < _ by decide)
          rw [whole_val, whole_val] at hc
          rw [Bool.true_and, ← cmp_one]
          exact linkworkref02_Valid.e4 a _ _ _ _ _ h1 p1 hc1 p2 hc2 hg one hc

theorem Parts (a : ARat) (h : FitR a) : Contract prg 64 [a.pv] (.tup [(Sym.whole a.val.num).pv, (Sym.whole (a.val.den : Int)).pv]) := by
  have hv := Valid a h
  cases hc : a.valid with
  | false => rw [val_inv hc]; exact linkworkref02_Parts.e0 a _ _ hv hc one
  | true =>
    by_cases h0 : a.num.length = 0
    · rw [val_nil (List.eq_nil_of_length_eq_zero h0)]; exact linkworkref02_Parts.e1 a _ _ hv hc h0 one
    · obtain ⟨e1, e2⟩ := parts_of hc h0
      rw [e1, e2]
      exact linkworkref02_Parts.e2 a _ hv hc h0

theorem form (n d : AWhole) (hn : n.mag.length ≤ 1099511627776) (hd : d.mag.length ≤ 1099511627776) (h0 : d.val ≠ 0) : Contract prg 113 [n.pv, d.pv] (mkR (Rat.divInt n.val d.val)).pv := by
  have sn := CRa.Sign n hn
  have sd := CRa.Sign d hd
  have wn := val_natAbs_le n
  have wd' := val_natAbs_le d
  by_cases hz : n.val = 0
  · rw [hz, Rat.zero_divInt]
    exact linkworkref02_form.e0 n d _ sn (by rw [hz]; rfl)
  · have hsn : sgn n.val ≠ 0 := by unfold sgn cmpI; split <;> (try split) <;> omega
    by_cases hneg : d.val < 0
    · have e : Rat.divInt n.val d.val = Rat.divInt (-n.val) (-d.val) := by rw [Rat.divInt_neg', Int.neg_neg]
      have n1 := CRa.Neg n hn
      have d1 := CRa.Neg d hd
      have l1 : (Sym.whole (-n.val)).mag.length ≤ 1099511627776 := by show wl _ ≤ _; rw [wl_neg]; omega
      have l2 : (Sym.whole (-d.val)).mag.length ≤ 1099511627776 := by show wl _ ≤ _; rw [wl_neg]; omega
      have g := CRa.Gcd _ _ l1 l2
      rw [whole_val, whole_val] at g
      have hgl := gcd_wl (a := -n.val) (b := -d.val) (k := 1099511627776) (by rw [wl_neg]; omega) (by rw [wl_neg]; omega)
      rw [e, formed (by omega) (by omega) _ rfl]
      have hg0 : ((Nat.gcd (-n.val).natAbs (-d.val).natAbs : Nat) : Int) ≠ 0 := by
        have := Nat.gcd_pos_of_pos_left (-d.val).natAbs (show 0 < (-n.val).natAbs by omega)
        omega
      generalize hG : ((Nat.gcd (-n.val).natAbs (-d.val).natAbs : Nat) : Int) = G at *
      have dd := CRa.Div (Sym.whole (-d.val)) (Sym.whole G) l2 hgl (by rw [whole_val]; exact hg0)
      have dn := CRa.Div (Sym.whole (-n.val)) (Sym.whole G) l1 hgl (by rw [whole_val]; exact hg0)
      rw [whole_val, whole_val] at dd dn
      exact linkworkref02_form.e1 n d _ _ _ _ _ _ _ _ _ _ _ sn hsn sd (by unfold sgn cmpI; rw [if_pos hneg]; omega) n1 d1 g dn dd
    · have g := CRa.Gcd _ _ hn hd
      have hgl := gcd_wl (a := n.val) (b := d.val) (k := 1099511627776) (by omega) (by omega)
      rw [formed hz (by omega) _ rfl]
      have hg0 : ((Nat.gcd n.val.natAbs d.val.natAbs : Nat) : Int) ≠ 0 := by
        have := Nat.gcd_pos_of_pos_left d.val.natAbs (show 0 < n.val.natAbs by omega)
        omega
      generalize hG : ((Nat.gcd n.val.natAbs d.val.natAbs : Nat) : Int) = G at *
      have dd := CRa.Div d (Sym.whole G) hd hgl (by rw [whole_val]; exact hg0)
      have dn := CRa.Div n (Sym.whole G) hn hgl (by rw [whole_val]; exact hg0)
      rw [whole_val] at dd dn
      have hsd : 0 ≤ sgn d.val := by unfold sgn cmpI; rw [if_neg hneg]; split <;> omega
      exact linkworkref02_form.e2 n d _ _ _ _ _ _ _ _ _ sn hsn sd hsd g dn dd

/-- The fraction of two integers of known length. -/
theorem form' (n d : Int) (hn : wl n ≤ 1099511627776) (hd : wl d ≤ 1099511627776) (h0 : d ≠ 0) : Contract prg 113 [(Sym.whole n).pv, (Sym.whole d).pv] (mkR (Rat.divInt n d)).pv := by
  have := form (Sym.whole n) (Sym.whole d) hn hd (by rw [whole_val]; exact h0)
  rwa [whole_val, whole_val] at this

theorem From (n d : AWhole) (hn : n.mag.length ≤ 1099511627776) (hd : d.mag.length ≤ 1099511627776) (h0 : d.val ≠ 0) : Contract prg 90 [n.pv, d.pv] (.tup [(mkR (Rat.divInt n.val d.val)).pv, (vI 0)]) :=
  linkworkref02_From.e1 n d _ _ (CRa.Sign d hd) (by unfold sgn cmpI; split <;> (try split) <;> omega) (form n d hn hd h0)
theorem From0 (n d : AWhole) (hd : d.mag.length ≤ 1099511627776) (h0 : d.val = 0) : Contract prg 90 [n.pv, d.pv] (.tup [(mkR 0).pv, (vI 8)]) :=
  linkworkref02_From.e0 n d _ (CRa.Sign d hd) (by rw [h0]; rfl)
theorem Of (n : Int) (h : InI64 n) : Contract prg 58 [vI n] (mkR (n : Rat)).pv := by
  have hw : wl n ≤ 2 := wl_le (by unfold InI64 at h; omega)
  have := form' n 1 (by omega) (by decide) (by omega)
  rw [show Rat.divInt n 1 = (n : Rat) from by rw [Rat.divInt_eq_div]; grind] at this
  exact linkworkref02_Of.e0 n _ _ _ (CRa.Of n h) one this
theorem Neg (a : ARat) (h : FitR a) : Contract prg 112 [a.pv] (mkR (-a.val)).pv := by
  have hp := Parts a h
  have hh := ht_fit h.1 h.2 (by omega)
  have h1 := ht_num a.val
  have h2 := ht_den a.val
  have hn := CRa.Neg (Sym.whole a.val.num) (show wl _ ≤ _ by omega)
  rw [whole_val] at hn
  have hf := form' (-a.val.num) a.val.den (by rw [wl_neg]; omega) (by omega) (by have := a.val.den_nz; omega)
  rw [← Rat.neg_divInt, Rat.num_divInt_den] at hf
  exact linkworkref02_Neg.e0 a _ _ _ _ hp hn hf
theorem Sign (a : ARat) (h : FitR a) : Contract prg 19 [a.pv] (vI (cmpR a.val 0)) := by
  have hp := Parts a h
  have hh := ht_fit h.1 h.2 (by omega)
  have h1 := ht_num a.val
  have hs := CRa.Sign (Sym.whole a.val.num) (show wl _ ≤ _ by omega)
  rw [whole_val, cmpR_zero] at hs
  exact linkworkref02_Sign.e0 a _ _ _ hp hs
theorem Add (a b : ARat) (ha : FitR a) (hb : FitR b) : Contract prg 105 [a.pv, b.pv] (mkR (a.val + b.val)).pv := by
  have pa := Parts a ha
  have pb := Parts b hb
  have la := ht_fit ha.1 ha.2 (by omega)
  have lb := ht_fit hb.1 hb.2 (by omega)
  have h1 := ht_num a.val
  have h2 := ht_den a.val
  have h3 := ht_num b.val
  have h4 := ht_den b.val
  have m1 := CRa.Mul (Sym.whole a.val.num) (Sym.whole (b.val.den : Int)) (show wl _ ≤ _ by omega) (show wl _ ≤ _ by omega)
  have m2 := CRa.Mul (Sym.whole b.val.num) (Sym.whole (a.val.den : Int)) (show wl _ ≤ _ by omega) (show wl _ ≤ _ by omega)
  have m3 := CRa.Mul (Sym.whole (a.val.den : Int)) (Sym.whole (b.val.den : Int)) (show wl _ ≤ _ by omega) (show wl _ ≤ _ by omega)
  rw [whole_val, whole_val] at m1 m2 m3
  have w1 := wl_mul a.val.num b.val.den
  have w2 := wl_mul b.val.num a.val.den
  have w3 := wl_mul (a.val.den : Int) b.val.den
  have s := CRa.Add (Sym.whole (a.val.num * b.val.den)) (Sym.whole (b.val.num * a.val.den)) (show wl _ ≤ _ by omega) (show wl _ ≤ _ by omega)
  rw [whole_val, whole_val] at s
  have w4 := wl_add (a.val.num * b.val.den) (b.val.num * a.val.den)
  have hf := form' (a.val.num * b.val.den + b.val.num * a.val.den) ((a.val.den : Int) * (b.val.den : Int)) (by omega) (by omega) (by
    have := a.val.den_nz
    have := b.val.den_nz
    exact Int.mul_ne_zero (by omega) (by omega))
  rw [← Int.natCast_mul, Rat.divInt_ofNat, ← Rat.add_def', Int.natCast_mul] at hf
  exact linkworkref02_Add.e0 a b _ _ _ _ _ _ _ _ _ pa pb m1 m2 s m3 hf
theorem Sub (a b : ARat) (ha : FitR a) (hb : FitR b) : Contract prg 56 [a.pv, b.pv] (mkR (a.val - b.val)).pv := by
  have hn := Neg b hb
  have lb := ht_fit hb.1 hb.2 (by omega)
  have hs := Add a (mkR (-b.val)) ha (fit_mkR (by rw [ht_neg]; exact lb))
  rw [mkR_val, ← Rat.sub_eq_add_neg] at hs
  exact linkworkref02_Sub.e0 a b _ _ hn hs
theorem Mul (a b : ARat) (ha : FitR a) (hb : FitR b) : Contract prg 57 [a.pv, b.pv] (mkR (a.val * b.val)).pv := by
  have pa := Parts a ha
  have pb := Parts b hb
  have la := ht_fit ha.1 ha.2 (by omega)
  have lb := ht_fit hb.1 hb.2 (by omega)
  have h1 := ht_num a.val
  have h2 := ht_den a.val
  have h3 := ht_num b.val
  have h4 := ht_den b.val
  have m1 := CRa.Mul (Sym.whole a.val.num) (Sym.whole b.val.num) (show wl _ ≤ _ by omega) (show wl _ ≤ _ by omega)
  have m3 := CRa.Mul (Sym.whole (a.val.den : Int)) (Sym.whole (b.val.den : Int)) (show wl _ ≤ _ by omega) (show wl _ ≤ _ by omega)
  rw [whole_val, whole_val] at m1 m3
  have w1 := wl_mul a.val.num b.val.num
  have w3 := wl_mul (a.val.den : Int) b.val.den
  have hf := form' (a.val.num * b.val.num) ((a.val.den : Int) * (b.val.den : Int)) (by omega) (by omega) (by
    have := a.val.den_nz
    have := b.val.den_nz
    exact Int.mul_ne_zero (by omega) (by omega))
  rw [← Int.natCast_mul, Rat.divInt_ofNat, ← Rat.mul_def', Int.natCast_mul] at hf
  exact linkworkref02_Mul.e0 a b _ _ _ _ _ _ _ pa pb m1 m3 hf
theorem Div (a b : ARat) (ha : FitR a) (hb : FitR b) (h0 : b.val ≠ 0) : Contract prg 59 [a.pv, b.pv] (.tup [(mkR (a.val / b.val)).pv, (vI 0)]) := by
  have pa := Parts a ha
  have pb := Parts b hb
  have la := ht_fit ha.1 ha.2 (by omega)
  have lb := ht_fit hb.1 hb.2 (by omega)
  have h1 := ht_num a.val
  have h2 := ht_den a.val
  have h3 := ht_num b.val
  have h4 := ht_den b.val
  have m1 := CRa.Mul (Sym.whole a.val.num) (Sym.whole (b.val.den : Int)) (show wl _ ≤ _ by omega) (show wl _ ≤ _ by omega)
  have m3 := CRa.Mul (Sym.whole (a.val.den : Int)) (Sym.whole b.val.num) (show wl _ ≤ _ by omega) (show wl _ ≤ _ by omega)
  rw [whole_val, whole_val] at m1 m3
  have w1 := wl_mul a.val.num b.val.den
  have w3 := wl_mul (a.val.den : Int) b.val.num
  have hf := From (Sym.whole (a.val.num * b.val.den)) (Sym.whole ((a.val.den : Int) * b.val.num)) (show wl _ ≤ _ by omega) (show wl _ ≤ _ by omega) (by
    rw [whole_val]
    have := a.val.den_nz
    refine Int.mul_ne_zero (by omega) (fun e => h0 (Rat.num_eq_zero.1 e)))
  rw [whole_val, whole_val, ← Rat.divInt_mul_divInt, Rat.num_divInt_den, ← Rat.inv_def, ← Rat.div_def] at hf
  exact linkworkref02_Div.e0 a b _ _ _ _ _ _ _ 0 pa pb m1 m3 hf
theorem Div0 (a b : ARat) (ha : FitR a) (hb : FitR b) (h0 : b.val = 0) : Contract prg 59 [a.pv, b.pv] (.tup [(mkR 0).pv, (vI 8)]) := by
  have pa := Parts a ha
  have pb := Parts b hb
  have la := ht_fit ha.1 ha.2 (by omega)
  have lb := ht_fit hb.1 hb.2 (by omega)
  have h1 := ht_num a.val
  have h2 := ht_den a.val
  have h3 := ht_num b.val
  have h4 := ht_den b.val
  have m1 := CRa.Mul (Sym.whole a.val.num) (Sym.whole (b.val.den : Int)) (show wl _ ≤ _ by omega) (show wl _ ≤ _ by omega)
  have m3 := CRa.Mul (Sym.whole (a.val.den : Int)) (Sym.whole b.val.num) (show wl _ ≤ _ by omega) (show wl _ ≤ _ by omega)
  rw [whole_val, whole_val] at m1 m3
  have w3 := wl_mul (a.val.den : Int) b.val.num
  have hf := From0 (Sym.whole (a.val.num * b.val.den)) (Sym.whole ((a.val.den : Int) * b.val.num)) (show wl _ ≤ _ by omega) (by
    rw [whole_val, h0]; simp)
  exact linkworkref02_Div.e0 a b _ _ _ _ _ _ _ 8 pa pb m1 m3 hf
theorem Floor (a : ARat) (h : FitR a) : Contract prg 91 [a.pv] (Sym.whole a.val.floor).pv := by
  have hp := Parts a h
  have hh := ht_fit h.1 h.2 (by omega)
  have h1 := ht_num a.val
  have h2 := ht_den a.val
  have hd := CRa.Div (Sym.whole a.val.num) (Sym.whole (a.val.den : Int)) (show wl _ ≤ _ by omega) (show wl _ ≤ _ by omega) (by rw [whole_val]; have := a.val.den_nz; omega)
  rw [whole_val, whole_val, ← Rat.floor_def] at hd
  exact linkworkref02_Floor.e0 a _ _ _ _ 0 hp hd
theorem Cmp (a b : ARat) (ha : a.num.length ≤ 68719476736 ∧ a.den.length ≤ 68719476736) (hb : b.num.length ≤ 68719476736 ∧ b.den.length ≤ 68719476736) : Contract prg 68 [a.pv, b.pv] (vI (cmpR a.val b.val)) := by
  have la := ht_fit ha.1 ha.2 (by omega)
  have lb := ht_fit hb.1 hb.2 (by omega)
  have hs := Sub a b ⟨by omega, by omega⟩ ⟨by omega, by omega⟩
  have hl := ht_sub a.val b.val
  have hg := Sign (mkR (a.val - b.val)) (fit_mkR (by omega))
  rw [mkR_val, ← cmpR_zero, cmpR_sub] at hg
  exact linkworkref02_Cmp.e0 a b _ _ hs hg
theorem copyR (a : ARat) (h : FitR a) : Contract prg 105 [a.pv, (⟨false, [], []⟩ : ARat).pv] (mkR a.val).pv := by
  have hf := Add a ⟨false, [], []⟩ h ⟨by simp, by simp⟩
  rwa [val_nil (a := ⟨false, [], []⟩) rfl, Rat.add_zero] at hf
theorem Min (a b : ARat) (ha : a.num.length ≤ 68719476736 ∧ a.den.length ≤ 68719476736) (hb : b.num.length ≤ 68719476736 ∧ b.den.length ≤ 68719476736) : Contract prg 168 [a.pv, b.pv] (mkR (minR a.val b.val)).pv := by
  unfold minR
  split
  · rename_i h; exact linkworkref02_Min.e0 a b _ _ (Cmp a b ha hb) h (copyR a ⟨by omega, by omega⟩)
  · rename_i h; exact linkworkref02_Min.e1 a b _ _ (Cmp a b ha hb) (by omega) (copyR b ⟨by omega, by omega⟩)
theorem Max (a b : ARat) (ha : a.num.length ≤ 68719476736 ∧ a.den.length ≤ 68719476736) (hb : b.num.length ≤ 68719476736 ∧ b.den.length ≤ 68719476736) : Contract prg 169 [a.pv, b.pv] (mkR (maxR a.val b.val)).pv := by
  unfold maxR
  split
  · rename_i h; exact linkworkref02_Max.e0 a b _ _ (Cmp a b ha hb) h (copyR a ⟨by omega, by omega⟩)
  · rename_i h; exact linkworkref02_Max.e1 a b _ _ (Cmp a b ha hb) (by omega) (copyR b ⟨by omega, by omega⟩)
theorem Make (n d : Int) (hn : InI64 n) (hd : InI64 d) (h0 : d ≠ 0) : Contract prg 107 [vI n, vI d] (.tup [(mkR (Rat.divInt n d)).pv, vI 0]) := by
  have hw : wl n ≤ 2 := wl_le (by unfold InI64 at hn; omega)
  have hw2 : wl d ≤ 2 := wl_le (by unfold InI64 at hd; omega)
  have hf := From (Sym.whole n) (Sym.whole d) (show wl _ ≤ _ by omega) (show wl _ ≤ _ by omega) (by rw [whole_val]; exact h0)
  rw [whole_val, whole_val] at hf
  exact linkworkref02_Make.e0 n d _ _ _ _ (CRa.Of n hn) (CRa.Of d hd) hf
end CRb
end Go.Proofs.YtcgbmnkgmepikaaGreat.Sym


/-
  Pol: polynomials as lists of rational numbers.
-/
namespace Go.Proofs.YtcgbmnkgmepikaaGreat.Sym
open Go Path CInt
set_option linter.unusedVariables false

/-- The numbers of a list of fractions. -/
def vals (p : List ARat) : List Rat := p.map ARat.val
/-- All fractions of a list have at most k words. -/
abbrev FitP (k : Nat) (p : List ARat) : Prop := ∀ a ∈ p, a.num.length ≤ k ∧ a.den.length ≤ k
abbrev Fl (k : Nat) (q : List Rat) : Prop := ∀ x ∈ q, ht x ≤ k

/-- A list without zeros at its end. -/
def trimL : List Rat → List Rat
  | [] => []
  | a :: r => bif (trimL r).isEmpty && decide (a = 0) then [] else a :: trimL r

theorem trimL_zero : ∀ q : List Rat, trimL (q ++ [0]) = trimL q
  | [] => rfl
  | a :: r => by
    show (bif (trimL (r ++ [0])).isEmpty && decide (a = 0) then [] else a :: trimL (r ++ [0])) = _
    rw [trimL_zero r]; rfl

theorem trimL_ne {v : Rat} (h : v ≠ 0) : ∀ {q : List Rat}, trimL (q ++ [v]) = q ++ [v]
  | [] => by
    show (bif (trimL []).isEmpty && decide (v = 0) then [] else v :: trimL []) = [v]
    rw [decide_eq_false h, Bool.and_false]; rfl
  | a :: r => by
    show (bif (trimL (r ++ [v])).isEmpty && decide (a = 0) then [] else a :: trimL (r ++ [v])) = _
    rw [trimL_ne h]
    cases r <;> rfl

theorem snoc_of {α : Type} {q : List α} {n : Nat} {v : α} (h : q[n]? = some v) (hl : q.length = n + 1) : q = q.take n ++ [v] := by
  have := List.take_add_one (l := q) (i := n)
  rw [h, List.take_of_length_le (by omega)] at this
  exact this

theorem fl_vals {k : Nat} {p : List ARat} (h : FitP k p) (hk : 1 ≤ k) : Fl k (vals p) := by
  intro x hx
  unfold vals at hx
  obtain ⟨a, ha, rfl⟩ := List.mem_map.1 hx
  exact ht_fit (h a ha).1 (h a ha).2 hk

theorem fit_map {q : List Rat} (h : Fl 274877906944 q) : FitP 274877906944 (q.map mkR) := by
  intro a ha
  obtain ⟨x, hx, rfl⟩ := List.mem_map.1 ha
  exact fit_mkR (h x hx)

theorem fit_mkRk {q : Rat} {k : Nat} (h : ht q ≤ k) : (mkR q).num.length ≤ k ∧ (mkR q).den.length ≤ k := by
  by_cases h0 : q = 0
  · subst h0; constructor <;> simp [mkR_zero]
  · rw [mkR_ne h0]
    exact ⟨Nat.le_trans (ht_num q) h, Nat.le_trans (ht_den q) h⟩

theorem fit_mapk {q : List Rat} {k : Nat} (h : Fl k q) : FitP k (q.map mkR) := by
  intro a ha
  obtain ⟨x, hx, rfl⟩ := List.mem_map.1 ha
  exact fit_mkRk (h x hx)

theorem vals_mkR (q : List Rat) : vals (q.map mkR) = q := by
  unfold vals
  rw [List.map_map]
  conv => rhs; rw [← List.map_id q]
  exact List.map_congr_left (fun x _ => mkR_val x)

theorem vals_of {p : List ARat} (h : p.all ARat.valid = true) : (vals p).map mkR = p := by
  unfold vals
  rw [List.map_map]
  conv => rhs; rw [← List.map_id p]
  exact List.map_congr_left (fun x hx => mkR_of (List.all_eq_true.1 h x hx))

theorem vals_drop {p : List ARat} {n : Nat} {v : ARat} (h : p[n]? = some v) : (vals p).drop n = v.val :: (vals p).drop (n + 1) := by
  obtain ⟨h1, h2⟩ := List.getElem?_eq_some_iff.1 h
  unfold vals
  rw [List.drop_eq_getElem_cons (by simpa using h1), List.getElem_map, h2]

/-- Is the last number 0? -/
def lastZ (q : List Rat) : Bool := match q.getLast? with
  | none => false
  | some v => decide (v = 0)

theorem lastZ_true {p : List ARat} (h : lastZ (vals p) = true) : ∃ v, 0 < p.length ∧ p[p.length - 1]? = some v ∧ v.val = 0 := by
  unfold lastZ vals at h
  rw [List.getLast?_map, List.getLast?_eq_getElem?] at h
  cases hv : p[p.length - 1]? with
  | none => rw [hv] at h; cases h
  | some v =>
    rw [hv] at h
    have h : decide (v.val = 0) = true := h
    exact ⟨v, by have := (List.getElem?_eq_some_iff.1 hv).1; omega, rfl, of_decide_eq_true h⟩

theorem lastZ_false {p : List ARat} (h : lastZ (vals p) = false) (h0 : p.length ≠ 0) : ∃ v, p[p.length - 1]? = some v ∧ v.val ≠ 0 := by
  unfold lastZ vals at h
  rw [List.getLast?_map, List.getLast?_eq_getElem?] at h
  obtain ⟨v, hv⟩ : ∃ v, p[p.length - 1]? = some v := ⟨_, List.getElem?_eq_getElem (by omega)⟩
  rw [hv] at h
  have h : decide (v.val = 0) = false := h
  exact ⟨v, hv, of_decide_eq_false h⟩

/-- The number of the error of a polynomial. -/
def chk (p : List ARat) : Int := if 65 < p.length then 4 else bif p.all ARat.valid then (bif lastZ (vals p) then 8 else 0) else 2

def errOf (n : Int) : Option Int := if n = 0 then none else some n
theorem errOf_ne {n : Int} (h : n ≠ 0) : errOf n = some n := if_neg h

theorem chk_len {p : List ARat} (h : chk p = 0) : p.length ≤ 65 := by
  unfold chk at h
  split at h
  · cases h
  · omega

theorem chk_valid {p : List ARat} (h : chk p = 0) : p.all ARat.valid = true := by
  unfold chk at h
  split at h
  · cases h
  · cases hv : p.all ARat.valid with
    | true => rfl
    | false => rw [hv] at h; cases h

theorem chk_last {p : List ARat} (h : chk p = 0) : lastZ (vals p) = false := by
  unfold chk at h
  split at h
  · cases h
  · cases hv : p.all ARat.valid with
    | false => rw [hv] at h; cases h
    | true =>
      rw [hv] at h
      cases hz : lastZ (vals p) with
      | false => rfl
      | true => rw [hz] at h; cases h

/-- The value of a polynomial, after Horner. -/
def evalL : List Rat → Rat → Rat
  | [], _ => 0
  | a :: r, x => evalL r x * x + a

theorem ht_eval (q : List Rat) (x : Rat) (k : Nat) (h : Fl k q) (hx : ht x ≤ k) : ht (evalL q x) ≤ q.length * (2 * k + 1) + 1 := by
  induction q with
  | nil =>
    have : ht (evalL [] x) = 1 := ht_zero
    omega
  | cons a r ih =>
    have h1 := ih (fun y hy => h y (List.mem_cons_of_mem _ hy))
    have h2 := h a (List.mem_cons_self ..)
    have h3 := ht_mul (evalL r x) x
    have h4 := ht_add (evalL r x * x) a
    show ht (evalL r x * x + a) ≤ _
    rw [List.length_cons, Nat.add_mul]
    omega

/-- The derivative: from the coefficient of x^i on. -/
def derI : Nat → List Rat → List Rat
  | _, [] => []
  | i, a :: r => ((i : Int) : Rat) * a :: derI (i + 1) r
def deriveL (q : List Rat) : List Rat := trimL (derI 1 (q.drop 1))

theorem derI_len : ∀ (q : List Rat) (i : Nat), (derI i q).length = q.length
  | [], _ => rfl
  | a :: r, i => by rw [derI, List.length_cons, List.length_cons, derI_len r]

theorem derI_snoc : ∀ (q : List Rat) (i : Nat) (a : Rat), derI i (q ++ [a]) = derI i q ++ [(((i + q.length : Nat) : Int) : Rat) * a]
  | [], i, a => rfl
  | b :: r, i, a => by
    rw [List.cons_append, derI, derI, derI_snoc r (i + 1) a, List.length_cons, List.cons_append, show i + 1 + r.length = i + (r.length + 1) from by omega]

theorem derI_take {p : List ARat} {i : Nat} {v : ARat} (hv : p[i]? = some v) (h : 1 ≤ i) : derI 1 (((vals p).take (i + 1)).drop 1) = derI 1 (((vals p).take i).drop 1) ++ [((i : Int) : Rat) * v.val] := by
  have h1 := (List.getElem?_eq_some_iff.1 hv).1
  have hm : (vals p)[i]? = some v.val := by unfold vals; rw [List.getElem?_map, hv]; rfl
  have hl : ((vals p).take i).length = i := by unfold vals; simp; omega
  rw [List.take_add_one, hm, List.drop_append_of_le_length (by omega)]
  show derI 1 (((vals p).take i).drop 1 ++ [v.val]) = _
  rw [derI_snoc, List.length_drop, hl, show 1 + (i - 1) = i from by omega]

theorem fl_derI {k : Nat} (hk : k + 2 ≤ 274877906944) : ∀ (q : List Rat) (i : Nat), i + q.length ≤ 18446744073709551615 → Fl k q → Fl 274877906944 (derI i q)
  | [], _, _, _ => fun x hx => by cases hx
  | a :: r, i, hi, h => by
    intro x hx
    rw [List.length_cons] at hi
    rcases List.mem_cons.1 hx with e | hx
    · rw [e]
      have h1 := ht_mul ((i : Int) : Rat) a
      have h2 := h a (List.mem_cons_self ..)
      have h3 : ht ((i : Int) : Rat) ≤ 2 := by
        rw [ht_int]
        have : wl (i : Int) ≤ 2 := wl_le (by omega)
        omega
      omega
    · exact fl_derI hk r (i + 1) (by omega) (fun y hy => h y (List.mem_cons_of_mem _ hy)) x hx

end Go.Proofs.YtcgbmnkgmepikaaGreat.Sym


/-
  PPoly: paths through functions (printed by a program of ours, wip/gen/gen2.py).
-/
namespace Go.Proofs.YtcgbmnkgmepikaaGreat.Sym.Path
open Go
set_option maxRecDepth 20000
set_option linter.unusedVariables false

namespace poly_Eval
@[reducible] noncomputable def fn : Func := Tryz.f16
noncomputable def atK1 : List Itm := focus [0, 2, 0, 0, 2, 0, 2, 1, 2, 0, 2, 0, 0, 2, 0, 0] [.code (bodyOf fn)]
def inv1 (p : List ARat) (i_8 : Int) (x site_7 : ARat) : St := ⟨[(0, (.pv (polyPV p))), (3, (.ptr 3 0)), (4, (.ptr 4 0)), (7, (.ptr 7 0)), (8, (eI i_8))], [(3, (.lit [(eB x.neg), (.pv (wordsPV x.num)), (.pv (wordsPV x.den))])), (4, (.lit [(eB false), (.pv (.list [])), (.pv (.list []))])), (7, (.lit [(eB site_7.neg), (.pv (wordsPV site_7.num)), (.pv (wordsPV site_7.den))]))]⟩
@[reducible] noncomputable def Loop1 (p : List ARat) (i_8 : Int) (x site_7 : ARat) (r : PV) : Prop := L prg fn atK1 (inv1 p i_8 x site_7) r
theorem e0 (p : List ARat) (x : ARat) {r : PV} (h1 : Contract prg 61 [(polyPV p)] .nilI) (h2 : InI64 ((p.length : Int) - 1)) (hL : Loop1 p ((p.length : Int) - 1) x (⟨false, [], []⟩ : ARat) r) : Contract prg 16 [(polyPV p), x.pv] r :=
  Contract.ofL Tryz.func16 (by kernel_rfl) (L.go mixed tabOk (n := 108) (ns := [1, 1, 1]) (tr := [.reg [], .reg [.none, (.pv .nilI)], .reg [], .auto, .reg [], .reg [.none, (iI (p.length : Int)), (iI ((p.length : Int) - 1))], .keep [0, 3, 4, 7, 8], .ord [3, 4, 7]]) (cj h1 (cj (o_len ARat.cells p) (cj (bs_sub h2) True.intro))) (by kernel_rfl) hL)
theorem e1 (p : List ARat) (x : ARat) (che : Int) (h1 : Contract prg 61 [(polyPV p)] (.iface 57 (vI che))) : Contract prg 16 [(polyPV p), x.pv] (.tup [(⟨false, [], []⟩ : ARat).pv, (.iface 57 (vI che))]) :=
  Contract.ofL Tryz.func16 (by kernel_rfl) (L.done mixed tabOk (n := 90) (ns := [1]) (tr := [.reg [], .reg [.none, (.pv (.iface 57 (vI che)))], .reg [], .auto, .reg []]) (cj h1 True.intro) (by kernel_rfl))
theorem l10 (p : List ARat) (i_8 : Int) (x site_7 mul : ARat) (k : Nat) (v add : ARat) {r : PV} (h1 : 0 ≤ i_8) (h2 : Contract prg 54 [site_7.pv, x.pv] mul.pv) (h3 : i_8 = (k : Int)) (h4 : p[k]? = some v) (h5 : Contract prg 32 [mul.pv, v.pv] add.pv) (h6 : InI64 (i_8 - 1)) (hL : Loop1 p (i_8 - 1) x add r) : Loop1 p i_8 x site_7 r :=
  L.go mixed tabOk (n := 141) (ns := [1, 1, 3, 1, 1]) (tr := [.auto, .reg [], .dec true, dr 8 1 [.none, .none, (.pv mul.pv), .none, .none, (.row k (ARat.cells v)), .none, (.pv add.pv)], .reg [.none, (iI (i_8 - 1))], .keep [0, 3, 4, 7, 8]]) (cj (dle_t h1) (cj h2 (cj (o_at ARat.cells h3 h4) (cj h5 (cj (bs_sub h6) True.intro))))) (by kernel_rfl) hL
theorem l11 (p : List ARat) (i_8 : Int) (x site_7 : ARat) (h1 : i_8 < 0) : Loop1 p i_8 x site_7 (.tup [site_7.pv, .nilI]) :=
  L.done mixed tabOk (n := 141) (ns := [1]) (tr := [.auto, .reg [], .dec false, .reg []]) (cj (dle_f h1) True.intro) (by kernel_rfl)
end poly_Eval

namespace poly_Derive
@[reducible] noncomputable def fn : Func := Tryz.f18
theorem e0 (p der : List ARat) (h1 : Contract prg 61 [(polyPV p)] .nilI) (h2 : Contract prg 63 [(polyPV p)] (polyPV der)) : Contract prg 18 [(polyPV p)] (.tup [(polyPV der), .nilI]) :=
  Contract.ofL Tryz.func18 (by kernel_rfl) (L.done mixed tabOk (n := 93) (ns := [1, 1]) (tr := [.reg [], .reg [.none, (.pv .nilI)], .reg [], .auto, .reg [.none, (.pv (polyPV der))]]) (cj h1 (cj h2 True.intro)) (by kernel_rfl))
theorem e1 (p : List ARat) (che : Int) (h1 : Contract prg 61 [(polyPV p)] (.iface 57 (vI che))) : Contract prg 18 [(polyPV p)] (.tup [(polyPV []), (.iface 57 (vI che))]) :=
  Contract.ofL Tryz.func18 (by kernel_rfl) (L.done mixed tabOk (n := 90) (ns := [1]) (tr := [.reg [], .reg [.none, (.pv (.iface 57 (vI che)))], .reg [], .auto, .reg []]) (cj h1 True.intro) (by kernel_rfl))
end poly_Derive

namespace poly_Trim
@[reducible] noncomputable def fn : Func := Tryz.f55
noncomputable def atK1 : List Itm := focus [0, 2, 0, 2, 0, 0, 2, 0, 0] [.code (bodyOf fn)]
def inv1 (site_17 l : List ARat) (t_8 : Nat) : St := ⟨[(3, (.row 17 0 site_17.length 3)), (6, (.pv (polyPV l))), (7, (eI (l.length : Int))), (8, (eI (t_8 : Int)))], [(17, (.pure ((site_17 : List ARat).map ARat.cells).flatten))]⟩
@[reducible] noncomputable def Loop1 (site_17 l : List ARat) (t_8 : Nat) (r : PV) : Prop := L prg fn atK1 (inv1 site_17 l t_8) r
noncomputable def atK2 : List Itm := focus [0, 2, 0, 2, 0, 0, 2, 0, 0, 0, 0, 2, 0, 1, 2, 2, 2, 2, 0, 0, 0] [.code (bodyOf fn)]
def inv2 (site_17 : List ARat) : St := ⟨[(3, (.row 17 0 site_17.length 3))], [(17, (.pure ((site_17 : List ARat).map ARat.cells).flatten))]⟩
@[reducible] noncomputable def Loop2 (site_17 : List ARat) (r : PV) : Prop := L prg fn atK2 (inv2 site_17) r
theorem e0 (l : List ARat) {r : PV}  (hL : Loop1 [] l 0 r) : Contract prg 55 [(polyPV l)] r :=
  Contract.ofL Tryz.func55 (by kernel_rfl) (L.go mixed tabOk (n := 87) (ns := [1]) (tr := [.reg [], .reg [.nil], .adopt 3 17 3, .reg [.none, (iI (l.length : Int))], .keep [3, 6, 7, 8]]) (cj (o_len ARat.cells l) True.intro) (by kernel_rfl) hL)
theorem l10 (site_17 l : List ARat) (t_8 : Nat) (v add : ARat) {r : PV} (h1 : t_8 < l.length) (h2 : l[t_8]? = some v) (h3 : Contract prg 32 [v.pv, (⟨false, [], []⟩ : ARat).pv] add.pv) (h4 : ((site_17 ++ [add]) : List ARat).length * 56 ≤ 140737488355328) (h5 : (t_8 + 1) < 9223372036854775808) (hL : Loop1 (site_17 ++ [add]) l (t_8 + 1) r) : Loop1 site_17 l t_8 r :=
  L.go mixed tabOk (n := 126) (ns := [1, 3, 1, 6, 1]) (tr := [.auto, .reg [], .dec true, .reg [(.row t_8 (ARat.cells v))], .reg [.none, .none, .none, (.pv add.pv), .none, (.app ((site_17 ++ [add]) : List ARat).length (((site_17 ++ [add]) : List ARat).map ARat.cells).flatten)], .reg [(iI (((t_8 + 1) : Nat) : Int))], .keep [3, 6, 7, 8], .drop [16, 5]]) (cj (dltN_t h1) (cj (o_at ARat.cells (Eq.refl (((t_8 : Nat) : Int) : Int)) h2) (cj h3 (cj (o_appR sz_ARat (site_17 : List ARat) ([add] : List ARat) 56 (Eq.refl (site_17 : List ARat).length) (Eq.refl ([add] : List ARat).length) h4 rfl) (cj (bs_addN h5) True.intro))))) (by kernel_rfl) hL
theorem l11 (site_17 l : List ARat) (t_8 : Nat) {r : PV} (h1 : l.length ≤ t_8) (hL : Loop2 site_17 r) : Loop1 site_17 l t_8 r :=
  L.go mixed tabOk (n := 123) (ns := [1]) (tr := [.auto, .reg [], .dec false, .keep [3]]) (cj (dltN_f h1) True.intro) (by kernel_rfl) hL
theorem l20 (site_17 : List ARat) (k : Nat) (v : ARat) (sig : Int) (u : Nat) {r : PV} (h1 : 0 < site_17.length) (h2 : InI64 ((site_17.length : Int) - 1)) (h3 : ((site_17.length : Int) - 1) = (k : Int)) (h4 : k < site_17.length) (h5 : site_17[k]? = some v) (h6 : Contract prg 39 [v.pv] (vI sig)) (h7 : sig = 0) (h8 : ((site_17.length : Int) - 1) = (u : Int)) (h9 : u ≤ (site_17 : List ARat).length) (hL : Loop2 (site_17.take u) r) : Loop2 site_17 r :=
  L.go mixed tabOk (n := 150) (ns := [1, 1, 1, 1, 1, 1, 2, 1, 2, 1, 1, 1, 1, 1, 1, 5, 1]) (tr := [.auto, .reg [.none, .none, .none, .none, .none, .none, .none, (iI ((site_17.length : Int) - 1)), (.nat k), (.seg [(vB v.neg), (wordsPV v.num), (wordsPV v.den)]), (.pv (vI sig)), .none, (.dec true)], .dec true, .reg [.none, .none, .none, (iI ((site_17.length : Int) - 1)), (.slc 0 ((site_17.take u).length) [])], .cut 17 (u * 3) (((site_17.take u) : List ARat).map ARat.cells).flatten, .keep [3]]) (cj (dltN_t h1) (cj (dltN_t h1) (cj (dltN_t h1) (cj (dltN_t h1) (cj (bs_sub h2) (cj (dltN_t h1) (cj (cj h3 h4) (cj (dltN_t h1) (cj (o_seg sz_ARat h5) (cj (dltN_t h1) (cj h6 (cj (dltN_t h1) (cj (dltN_t h1) (cj (deq_t h7) (cj (bs_sub h2) (cj (o_sr0 (site_17 : List ARat) h8 h9) (cj (o_cut sz_ARat (site_17 : List ARat) u) True.intro))))))))))))))))) (by kernel_rfl) hL
theorem l21 (site_17 : List ARat) (k : Nat) (v : ARat) (sig : Int) (h1 : 0 < site_17.length) (h2 : InI64 ((site_17.length : Int) - 1)) (h3 : ((site_17.length : Int) - 1) = (k : Int)) (h4 : k < site_17.length) (h5 : site_17[k]? = some v) (h6 : Contract prg 39 [v.pv] (vI sig)) (h7 : sig ≠ 0) : Loop2 site_17 (polyPV site_17) :=
  L.done mixed tabOk (n := 156) (ns := [1, 1, 1, 1, 1, 1, 2, 1, 2, 1, 1, 1, 1, 1, 3]) (tr := [.auto, .reg [.none, .none, .none, .none, .none, .none, .none, (iI ((site_17.length : Int) - 1)), (.nat k), (.seg [(vB v.neg), (wordsPV v.num), (wordsPV v.den)]), (.pv (vI sig)), .none, (.dec true)], .dec false, .reg [], .frzT 2 ((site_17 : List ARat).map ARat.cells)]) (cj (dltN_t h1) (cj (dltN_t h1) (cj (dltN_t h1) (cj (dltN_t h1) (cj (bs_sub h2) (cj (dltN_t h1) (cj (cj h3 h4) (cj (dltN_t h1) (cj (o_seg sz_ARat h5) (cj (dltN_t h1) (cj h6 (cj (dltN_t h1) (cj (dltN_t h1) (cj (deq_f h7) (cj (o_frz sz_ARat (site_17 : List ARat) (Eq.refl (site_17 : List ARat).length)) True.intro))))))))))))))) (by kernel_rfl)
theorem l22 (site_17 : List ARat) (h1 : site_17.length ≤ 0) : Loop2 site_17 (polyPV site_17) :=
  L.done mixed tabOk (n := 156) (ns := [1, 1, 1, 1, 1, 1, 1, 1, 1, 3]) (tr := [.auto, .reg [.none, .none, .none, .none, .skip, .skip, .skip, .skip, .skip, .skip, .skip, .skip, (.dec false)], .auto, .reg [], .frzT 2 ((site_17 : List ARat).map ARat.cells)]) (cj (dltN_f h1) (cj (dltN_f h1) (cj (dltN_f h1) (cj (dltN_f h1) (cj (dltN_f h1) (cj (dltN_f h1) (cj (dltN_f h1) (cj (dltN_f h1) (cj (dltN_f h1) (cj (o_frz sz_ARat (site_17 : List ARat) (Eq.refl (site_17 : List ARat).length)) True.intro)))))))))) (by kernel_rfl)
end poly_Trim

namespace poly_TrimX
@[reducible] noncomputable def fn : Func := Tryz.f55
noncomputable def atK1 : List Itm := focus [0, 2, 0, 2, 0, 0, 2, 0, 0] [.code (bodyOf fn)]
def inv1 (site_17 l : List ARat) (t_8 : Nat) : St := ⟨[(3, (.row 17 0 site_17.length 3)), (6, (.pv (polyPV l))), (7, (eI (l.length : Int))), (8, (eI (t_8 : Int)))], [(17, (.pure ((site_17 : List ARat).map ARat.cells).flatten))]⟩
@[reducible] noncomputable def Loop1 (site_17 l : List ARat) (t_8 : Nat) (sin : Sto) (r : EV) (sout : Sto) : Prop := LX prg fn atK1 (inv1 site_17 l t_8) sin r sout
noncomputable def atK2 : List Itm := focus [0, 2, 0, 2, 0, 0, 2, 0, 0, 0, 0, 2, 0, 1, 2, 2, 2, 2, 0, 0, 0] [.code (bodyOf fn)]
def inv2 (site_17 : List ARat) : St := ⟨[(3, (.row 17 0 site_17.length 3))], [(17, (.pure ((site_17 : List ARat).map ARat.cells).flatten))]⟩
@[reducible] noncomputable def Loop2 (site_17 : List ARat) (sin : Sto) (r : EV) (sout : Sto) : Prop := LX prg fn atK2 (inv2 site_17) sin r sout
theorem e0 (l : List ARat) {r : EV} {sout : Sto}  (hL : Loop1 [] l 0 [] r sout) : ContractX prg 55 [(.pv (polyPV l))] [] r sout :=
  ContractX.ofL Tryz.func55 (by kernel_rfl) (LX.go mixed tabOk (n := 87) (ns := [1]) (tr := [.reg [], .reg [.nil], .adopt 3 17 3, .reg [.none, (iI (l.length : Int))], .keep [3, 6, 7, 8]]) rfl (cj (o_len ARat.cells l) True.intro) (by kernel_rfl) hL)
theorem l10 (site_17 l : List ARat) (t_8 : Nat) (v add : ARat) {r : EV} {sout : Sto} {sin : Sto} (hs : sin.all (fun p => Nat.ble fn.ntmps p.1) = true) (h1 : t_8 < l.length) (h2 : l[t_8]? = some v) (h3 : Contract prg 32 [v.pv, (⟨false, [], []⟩ : ARat).pv] add.pv) (h4 : ((site_17 ++ [add]) : List ARat).length * 56 ≤ 140737488355328) (h5 : (t_8 + 1) < 9223372036854775808) (hL : Loop1 (site_17 ++ [add]) l (t_8 + 1) sin r sout) : Loop1 site_17 l t_8 sin r sout :=
  LX.go mixed tabOk (n := 126) (ns := [1, 3, 1, 6, 1]) (tr := [.auto, .reg [], .dec true, .reg [(.row t_8 (ARat.cells v))], .reg [.none, .none, .none, (.pv add.pv), .none, (.app ((site_17 ++ [add]) : List ARat).length (((site_17 ++ [add]) : List ARat).map ARat.cells).flatten)], .reg [(iI (((t_8 + 1) : Nat) : Int))], .keep [3, 6, 7, 8], .drop [16, 5]]) hs (cj (dltN_t h1) (cj (o_at ARat.cells (Eq.refl (((t_8 : Nat) : Int) : Int)) h2) (cj h3 (cj (o_appR sz_ARat (site_17 : List ARat) ([add] : List ARat) 56 (Eq.refl (site_17 : List ARat).length) (Eq.refl ([add] : List ARat).length) h4 rfl) (cj (bs_addN h5) True.intro))))) (by kernel_rfl) hL
theorem l11 (site_17 l : List ARat) (t_8 : Nat) {r : EV} {sout : Sto} {sin : Sto} (hs : sin.all (fun p => Nat.ble fn.ntmps p.1) = true) (h1 : l.length ≤ t_8) (hL : Loop2 site_17 sin r sout) : Loop1 site_17 l t_8 sin r sout :=
  LX.go mixed tabOk (n := 123) (ns := [1]) (tr := [.auto, .reg [], .dec false, .keep [3]]) hs (cj (dltN_f h1) True.intro) (by kernel_rfl) hL
theorem l20 (site_17 : List ARat) (k : Nat) (v : ARat) (sig : Int) (u : Nat) {r : EV} {sout : Sto} {sin : Sto} (hs : sin.all (fun p => Nat.ble fn.ntmps p.1) = true) (h1 : 0 < site_17.length) (h2 : InI64 ((site_17.length : Int) - 1)) (h3 : ((site_17.length : Int) - 1) = (k : Int)) (h4 : k < site_17.length) (h5 : site_17[k]? = some v) (h6 : Contract prg 39 [v.pv] (vI sig)) (h7 : sig = 0) (h8 : ((site_17.length : Int) - 1) = (u : Int)) (h9 : u ≤ (site_17 : List ARat).length) (hL : Loop2 (site_17.take u) sin r sout) : Loop2 site_17 sin r sout :=
  LX.go mixed tabOk (n := 150) (ns := [1, 1, 1, 1, 1, 1, 2, 1, 2, 1, 1, 1, 1, 1, 1, 5, 1]) (tr := [.auto, .reg [.none, .none, .none, .none, .none, .none, .none, (iI ((site_17.length : Int) - 1)), (.nat k), (.seg [(vB v.neg), (wordsPV v.num), (wordsPV v.den)]), (.pv (vI sig)), .none, (.dec true)], .dec true, .reg [.none, .none, .none, (iI ((site_17.length : Int) - 1)), (.slc 0 ((site_17.take u).length) [])], .cut 17 (u * 3) (((site_17.take u) : List ARat).map ARat.cells).flatten, .keep [3]]) hs (cj (dltN_t h1) (cj (dltN_t h1) (cj (dltN_t h1) (cj (dltN_t h1) (cj (bs_sub h2) (cj (dltN_t h1) (cj (cj h3 h4) (cj (dltN_t h1) (cj (o_seg sz_ARat h5) (cj (dltN_t h1) (cj h6 (cj (dltN_t h1) (cj (dltN_t h1) (cj (deq_t h7) (cj (bs_sub h2) (cj (o_sr0 (site_17 : List ARat) h8 h9) (cj (o_cut sz_ARat (site_17 : List ARat) u) True.intro))))))))))))))))) (by kernel_rfl) hL
theorem l21 (site_17 : List ARat) (k : Nat) (v : ARat) (sig : Int) {sin : Sto} (hs : sin.all (fun p => Nat.ble fn.ntmps p.1) = true) (hi : sin.all (fun p => (Sto.get [(0, (.pure ((site_17 : List ARat).map ARat.cells).flatten))] p.1).isSome) = true) (h1 : 0 < site_17.length) (h2 : InI64 ((site_17.length : Int) - 1)) (h3 : ((site_17.length : Int) - 1) = (k : Int)) (h4 : k < site_17.length) (h5 : site_17[k]? = some v) (h6 : Contract prg 39 [v.pv] (vI sig)) (h7 : sig ≠ 0) : Loop2 site_17 sin (.row 0 0 site_17.length 3) [(0, (.pure ((site_17 : List ARat).map ARat.cells).flatten))] :=
  LX.done2 mixed tabOk (n := 156) (ns := [1, 1, 1, 1, 1, 1, 2, 1, 2, 1, 1, 1, 1, 1]) (tr := [.auto, .reg [.none, .none, .none, .none, .none, .none, .none, (iI ((site_17.length : Int) - 1)), (.nat k), (.seg [(vB v.neg), (wordsPV v.num), (wordsPV v.den)]), (.pv (vI sig)), .none, (.dec true)], .dec false, .reg [], .ren 17 0, .ord [0]]) hs hi (cj (dltN_t h1) (cj (dltN_t h1) (cj (dltN_t h1) (cj (dltN_t h1) (cj (bs_sub h2) (cj (dltN_t h1) (cj (cj h3 h4) (cj (dltN_t h1) (cj (o_seg sz_ARat h5) (cj (dltN_t h1) (cj h6 (cj (dltN_t h1) (cj (dltN_t h1) (cj (deq_f h7) True.intro)))))))))))))) (by kernel_rfl)
theorem l22 (site_17 : List ARat) {sin : Sto} (hs : sin.all (fun p => Nat.ble fn.ntmps p.1) = true) (hi : sin.all (fun p => (Sto.get [(0, (.pure ((site_17 : List ARat).map ARat.cells).flatten))] p.1).isSome) = true) (h1 : site_17.length ≤ 0) : Loop2 site_17 sin (.row 0 0 site_17.length 3) [(0, (.pure ((site_17 : List ARat).map ARat.cells).flatten))] :=
  LX.done2 mixed tabOk (n := 156) (ns := [1, 1, 1, 1, 1, 1, 1, 1, 1]) (tr := [.auto, .reg [.none, .none, .none, .none, .skip, .skip, .skip, .skip, .skip, .skip, .skip, .skip, (.dec false)], .auto, .reg [], .ren 17 0, .ord [0]]) hs hi (cj (dltN_f h1) (cj (dltN_f h1) (cj (dltN_f h1) (cj (dltN_f h1) (cj (dltN_f h1) (cj (dltN_f h1) (cj (dltN_f h1) (cj (dltN_f h1) (cj (dltN_f h1) True.intro))))))))) (by kernel_rfl)
end poly_TrimX

namespace poly_Check
@[reducible] noncomputable def fn : Func := Tryz.f61
noncomputable def atK1 : List Itm := focus [0, 2, 0, 0, 2, 1, 2, 0, 0, 2, 0, 0] [.code (bodyOf fn)]
def inv1 (p : List ARat) (t_11 : Nat) : St := ⟨[(0, (.pv (polyPV p))), (9, (.pv (polyPV p))), (10, (eI (p.length : Int))), (11, (eI (t_11 : Int)))], []⟩
@[reducible] noncomputable def Loop1 (p : List ARat) (t_11 : Nat) (r : PV) : Prop := L prg fn atK1 (inv1 p t_11) r
theorem e0 (p : List ARat) (h1 : 65 < p.length) : Contract prg 61 [(polyPV p)] (.iface 57 (vI 4)) :=
  Contract.ofL Tryz.func61 (by kernel_rfl) (L.done mixed tabOk (n := 84) (ns := [1, 1]) (tr := [.reg [], .reg [.none, (iI (p.length : Int))], .dec true, .reg []]) (cj (o_len ARat.cells p) (cj (dltN_t h1) True.intro)) (by kernel_rfl))
theorem e1 (p : List ARat) {r : PV} (h1 : p.length ≤ 65) (hL : Loop1 p 0 r) : Contract prg 61 [(polyPV p)] r :=
  Contract.ofL Tryz.func61 (by kernel_rfl) (L.go mixed tabOk (n := 96) (ns := [1, 1, 1]) (tr := [.reg [], .reg [.none, (iI (p.length : Int))], .dec false, .reg [.none, (iI (p.length : Int))], .keep [0, 9, 10, 11]]) (cj (o_len ARat.cells p) (cj (dltN_f h1) (cj (o_len ARat.cells p) True.intro))) (by kernel_rfl) hL)
theorem l10 (p : List ARat) (t_11 : Nat) (v : ARat) (val : Bool) (h1 : t_11 < p.length) (h2 : p[t_11]? = some v) (h3 : Contract prg 50 [v.pv] (vB val)) (h4 : val = false) : Loop1 p t_11 (.iface 57 (vI 2)) :=
  L.done mixed tabOk (n := 141) (ns := [1, 3, 1, 1]) (tr := [.auto, .reg [], .dec true, .reg [(.row t_11 (ARat.cells v))], .reg [.none, (.pv (vB val))], .dec true, .reg []]) (cj (dltN_t h1) (cj (o_at ARat.cells (Eq.refl (((t_11 : Nat) : Int) : Int)) h2) (cj h3 (cj (bnot_t h4) True.intro)))) (by kernel_rfl)
theorem l11 (p : List ARat) (t_11 : Nat) (v : ARat) (val : Bool) {r : PV} (h1 : t_11 < p.length) (h2 : p[t_11]? = some v) (h3 : Contract prg 50 [v.pv] (vB val)) (h4 : val = true) (h5 : (t_11 + 1) < 9223372036854775808) (hL : Loop1 p (t_11 + 1) r) : Loop1 p t_11 r :=
  L.go mixed tabOk (n := 144) (ns := [1, 3, 1, 1, 1]) (tr := [.auto, .reg [], .dec true, .reg [(.row t_11 (ARat.cells v))], .reg [.none, (.pv (vB val))], .dec false, .reg [(iI (((t_11 + 1) : Nat) : Int))], .keep [0, 9, 10, 11], .drop [4]]) (cj (dltN_t h1) (cj (o_at ARat.cells (Eq.refl (((t_11 : Nat) : Int) : Int)) h2) (cj h3 (cj (bnot_f h4) (cj (bs_addN h5) True.intro))))) (by kernel_rfl) hL
theorem l12 (p : List ARat) (t_11 k : Nat) (v : ARat) (sig : Int) (h1 : p.length ≤ t_11) (h2 : 0 < p.length) (h3 : InI64 ((p.length : Int) - 1)) (h4 : ((p.length : Int) - 1) = (k : Int)) (h5 : p[k]? = some v) (h6 : Contract prg 39 [v.pv] (vI sig)) (h7 : sig = 0) : Loop1 p t_11 (.iface 57 (vI 8)) :=
  L.done mixed tabOk (n := 141) (ns := [1, 1, 1, 1, 1, 1, 1, 1, 1, 3, 1, 1, 1, 1, 1, 1]) (tr := [.auto, .reg [], .dec false, .reg [.none, (iI (p.length : Int)), .none, .none, .none, .none, (iI (p.length : Int)), (iI ((p.length : Int) - 1)), (.row k (ARat.cells v)), .none, (.pv (vI sig)), .none, (.dec true)], .dec true, .reg []]) (cj (dltN_f h1) (cj (o_len ARat.cells p) (cj (dltN_t h2) (cj (dltN_t h2) (cj (dltN_t h2) (cj (o_len ARat.cells p) (cj (dltN_t h2) (cj (bs_sub h3) (cj (dltN_t h2) (cj (o_at ARat.cells h4 h5) (cj (dltN_t h2) (cj (dltN_t h2) (cj h6 (cj (dltN_t h2) (cj (dltN_t h2) (cj (deq_t h7) True.intro)))))))))))))))) (by kernel_rfl)
theorem l13 (p : List ARat) (t_11 k : Nat) (v : ARat) (sig : Int) (h1 : p.length ≤ t_11) (h2 : 0 < p.length) (h3 : InI64 ((p.length : Int) - 1)) (h4 : ((p.length : Int) - 1) = (k : Int)) (h5 : p[k]? = some v) (h6 : Contract prg 39 [v.pv] (vI sig)) (h7 : sig ≠ 0) : Loop1 p t_11 .nilI :=
  L.done mixed tabOk (n := 144) (ns := [1, 1, 1, 1, 1, 1, 1, 1, 1, 3, 1, 1, 1, 1, 1, 1]) (tr := [.auto, .reg [], .dec false, .reg [.none, (iI (p.length : Int)), .none, .none, .none, .none, (iI (p.length : Int)), (iI ((p.length : Int) - 1)), (.row k (ARat.cells v)), .none, (.pv (vI sig)), .none, (.dec true)], .dec false, .reg []]) (cj (dltN_f h1) (cj (o_len ARat.cells p) (cj (dltN_t h2) (cj (dltN_t h2) (cj (dltN_t h2) (cj (o_len ARat.cells p) (cj (dltN_t h2) (cj (bs_sub h3) (cj (dltN_t h2) (cj (o_at ARat.cells h4 h5) (cj (dltN_t h2) (cj (dltN_t h2) (cj h6 (cj (dltN_t h2) (cj (dltN_t h2) (cj (deq_f h7) True.intro)))))))))))))))) (by kernel_rfl)
theorem l14 (p : List ARat) (t_11 : Nat) (h1 : p.length ≤ t_11) (h2 : p.length ≤ 0) : Loop1 p t_11 .nilI :=
  L.done mixed tabOk (n := 144) (ns := [1, 1, 1, 1, 1, 1, 1, 1, 1, 1, 1]) (tr := [.auto, .reg [], .dec false, .reg [.none, (iI (p.length : Int)), .none, .none, .skip, .skip, .skip, .skip, .skip, .skip, .skip, .skip, (.dec false)], .auto, .reg []]) (cj (dltN_f h1) (cj (o_len ARat.cells p) (cj (dltN_f h2) (cj (dltN_f h2) (cj (dltN_f h2) (cj (dltN_f h2) (cj (dltN_f h2) (cj (dltN_f h2) (cj (dltN_f h2) (cj (dltN_f h2) (cj (dltN_f h2) True.intro))))))))))) (by kernel_rfl)
end poly_Check

namespace poly_derive
@[reducible] noncomputable def fn : Func := Tryz.f63
noncomputable def atK1 : List Itm := focus [0, 2, 0, 2, 0, 0, 2, 0, 0] [.code (bodyOf fn)]
def inv1 (p site_20 : List ARat) (i_4 : Nat) : St := ⟨[(0, (.pv (polyPV p))), (3, (.row 20 0 site_20.length 3)), (4, (eI (i_4 : Int)))], [(20, (.pure ((site_20 : List ARat).map ARat.cells).flatten))]⟩
@[reducible] noncomputable def Loop1 (p site_20 : List ARat) (i_4 : Nat) (r : PV) : Prop := L prg fn atK1 (inv1 p site_20 i_4) r
theorem e0 (p : List ARat) {r : PV}  (hL : Loop1 p [] 1 r) : Contract prg 63 [(polyPV p)] r :=
  Contract.ofL Tryz.func63 (by kernel_rfl) (L.go mixed tabOk (n := 87) (ns := []) (tr := [.reg [], .reg [.nil], .adopt 3 20 3, .reg [], .keep [0, 3, 4]]) True.intro (by kernel_rfl) hL)
theorem l10 (p site_20 : List ARat) (i_4 : Nat) (of v mul : ARat) {r : PV} (h1 : i_4 < p.length) (h2 : Contract prg 33 [(vI (i_4 : Int))] of.pv) (h3 : p[i_4]? = some v) (h4 : Contract prg 54 [of.pv, v.pv] mul.pv) (h5 : ((site_20 ++ [mul]) : List ARat).length * 56 ≤ 140737488355328) (h6 : (i_4 + 1) < 9223372036854775808) (hL : Loop1 p (site_20 ++ [mul]) (i_4 + 1) r) : Loop1 p site_20 i_4 r :=
  L.go mixed tabOk (n := 120) (ns := [1, 1, 1, 3, 1, 6, 1]) (tr := [.auto, .reg [.none, .none, (iI (p.length : Int))], .dec true, dr 9 2 [.none, .none, (.pv of.pv), .none, .none, (.row i_4 (ARat.cells v)), .none, (.pv mul.pv), .none, (.app ((site_20 ++ [mul]) : List ARat).length (((site_20 ++ [mul]) : List ARat).map ARat.cells).flatten)], .reg [.none, (iI (((i_4 + 1) : Nat) : Int))], .keep [0, 3, 4], .drop [19]]) (cj (o_len ARat.cells p) (cj (dltN_t h1) (cj h2 (cj (o_at ARat.cells (Eq.refl (((i_4 : Nat) : Int) : Int)) h3) (cj h4 (cj (o_appR sz_ARat (site_20 : List ARat) ([mul] : List ARat) 56 (Eq.refl (site_20 : List ARat).length) (Eq.refl ([mul] : List ARat).length) h5 rfl) (cj (bs_addN h6) True.intro))))))) (by kernel_rfl) hL
theorem l11 (p site_20 : List ARat) (i_4 : Nat) (tri : List ARat) (h1 : p.length ≤ i_4) (h2 : Contract prg 55 [(polyPV site_20)] (polyPV tri)) : Loop1 p site_20 i_4 (polyPV tri) :=
  L.done mixed tabOk (n := 120) (ns := [1, 1, 3, 1]) (tr := [.auto, .reg [.none, .none, (iI (p.length : Int))], .dec false, .frzT 3 ((site_20 : List ARat).map ARat.cells), .reg [.none, (.pv (polyPV tri))]]) (cj (o_len ARat.cells p) (cj (dltN_f h1) (cj (o_frz sz_ARat (site_20 : List ARat) (Eq.refl (site_20 : List ARat).length)) (cj h2 True.intro)))) (by kernel_rfl)
end poly_derive

namespace poly_Degree
@[reducible] noncomputable def fn : Func := Tryz.f70
theorem e0 (p : List ARat) (h1 : InI64 ((p.length : Int) - 1)) : Contract prg 70 [(polyPV p)] (vI ((p.length : Int) - 1)) :=
  Contract.ofL Tryz.func70 (by kernel_rfl) (L.done mixed tabOk (n := 72) (ns := [1, 1]) (tr := [.reg [], .reg [.none, (iI (p.length : Int)), (iI ((p.length : Int) - 1))]]) (cj (o_len ARat.cells p) (cj (bs_sub h1) True.intro)) (by kernel_rfl))
end poly_Degree

namespace poly_Over
@[reducible] noncomputable def fn : Func := Tryz.f84
noncomputable def atK1 : List Itm := focus [0, 2, 0, 0, 2, 0, 2, 1, 2, 0, 2, 0, 0, 2, 0, 0] [.code (bodyOf fn)]
def inv1 (p : List ARat) (i_8 : Int) (rV site_7 : ARange) : St := ⟨[(0, (.pv (polyPV p))), (3, (.ptr 3 0)), (4, (.ptr 4 0)), (7, (.ptr 7 0)), (8, (eI i_8))], [(3, (.lit [(eB rV.lo.neg), (.pv (wordsPV rV.lo.num)), (.pv (wordsPV rV.lo.den)), (eB rV.hi.neg), (.pv (wordsPV rV.hi.num)), (.pv (wordsPV rV.hi.den))])), (4, (.lit [(eB false), (.pv (.list [])), (.pv (.list [])), (eB false), (.pv (.list [])), (.pv (.list []))])), (7, (.lit [(eB site_7.lo.neg), (.pv (wordsPV site_7.lo.num)), (.pv (wordsPV site_7.lo.den)), (eB site_7.hi.neg), (.pv (wordsPV site_7.hi.num)), (.pv (wordsPV site_7.hi.den))]))]⟩
@[reducible] noncomputable def Loop1 (p : List ARat) (i_8 : Int) (rV site_7 : ARange) (r : PV) : Prop := L prg fn atK1 (inv1 p i_8 rV site_7) r
theorem e0 (p : List ARat) (rV : ARange) {r : PV} (h1 : Contract prg 61 [(polyPV p)] .nilI) (h2 : InI64 ((p.length : Int) - 1)) (hL : Loop1 p ((p.length : Int) - 1) rV (⟨(⟨false, [], []⟩ : ARat), (⟨false, [], []⟩ : ARat)⟩ : ARange) r) : Contract prg 84 [(polyPV p), rV.pv] r :=
  Contract.ofL Tryz.func84 (by kernel_rfl) (L.go mixed tabOk (n := 108) (ns := [1, 1, 1]) (tr := [.reg [], .reg [.none, (.pv .nilI)], .reg [], .auto, .reg [], .reg [.none, (iI (p.length : Int)), (iI ((p.length : Int) - 1))], .keep [0, 3, 4, 7, 8], .ord [3, 4, 7]]) (cj h1 (cj (o_len ARat.cells p) (cj (bs_sub h2) True.intro))) (by kernel_rfl) hL)
theorem e1 (p : List ARat) (rV : ARange) (che : Int) (h1 : Contract prg 61 [(polyPV p)] (.iface 57 (vI che))) : Contract prg 84 [(polyPV p), rV.pv] (.tup [(⟨(⟨false, [], []⟩ : ARat), (⟨false, [], []⟩ : ARat)⟩ : ARange).pv, (.iface 57 (vI che))]) :=
  Contract.ofL Tryz.func84 (by kernel_rfl) (L.done mixed tabOk (n := 90) (ns := [1]) (tr := [.reg [], .reg [.none, (.pv (.iface 57 (vI che)))], .reg [], .auto, .reg []]) (cj h1 True.intro) (by kernel_rfl))
theorem l10 (p : List ARat) (i_8 : Int) (rV site_7 : ARange) (k : Nat) (v : ARat) (poi : ARange) {r : PV} (h1 : 0 ≤ i_8) (h2 : InI64 ((p.length : Int) - 1)) (h3 : i_8 = ((p.length : Int) - 1)) (h4 : i_8 = (k : Int)) (h5 : p[k]? = some v) (h6 : Contract prg 132 [v.pv] poi.pv) (h7 : InI64 (i_8 - 1)) (hL : Loop1 p (i_8 - 1) rV poi r) : Loop1 p i_8 rV site_7 r :=
  L.go mixed tabOk (n := 162) (ns := [1, 1, 1, 1, 3, 1, 1]) (tr := [.auto, .reg [], .dec true, .reg [.none, .none, (iI (p.length : Int)), (iI ((p.length : Int) - 1))], .dec true, .reg [.none, .none, (.row k (ARat.cells v)), .none, (.pv poi.pv)], .reg [.none, (iI (i_8 - 1))], .keep [0, 3, 4, 7, 8]]) (cj (dle_t h1) (cj (o_len ARat.cells p) (cj (bs_sub h2) (cj (deq_t h3) (cj (o_at ARat.cells h4 h5) (cj h6 (cj (bs_sub h7) True.intro))))))) (by kernel_rfl) hL
theorem l11 (p : List ARat) (i_8 : Int) (rV site_7 mul : ARange) (k : Nat) (v : ARat) (poi add : ARange) {r : PV} (h1 : 0 ≤ i_8) (h2 : InI64 ((p.length : Int) - 1)) (h3 : i_8 ≠ ((p.length : Int) - 1)) (h4 : Contract prg 134 [site_7.pv, rV.pv] mul.pv) (h5 : i_8 = (k : Int)) (h6 : p[k]? = some v) (h7 : Contract prg 132 [v.pv] poi.pv) (h8 : Contract prg 133 [mul.pv, poi.pv] add.pv) (h9 : InI64 (i_8 - 1)) (hL : Loop1 p (i_8 - 1) rV add r) : Loop1 p i_8 rV site_7 r :=
  L.go mixed tabOk (n := 156) (ns := [1, 1, 1, 1, 1, 3, 1, 1, 1]) (tr := [.auto, .reg [], .dec true, .reg [.none, .none, (iI (p.length : Int)), (iI ((p.length : Int) - 1))], .dec false, dr 9 1 [.none, .none, (.pv mul.pv), .none, .none, (.row k (ARat.cells v)), .none, (.pv poi.pv), (.pv add.pv)], .reg [.none, (iI (i_8 - 1))], .keep [0, 3, 4, 7, 8]]) (cj (dle_t h1) (cj (o_len ARat.cells p) (cj (bs_sub h2) (cj (deq_f h3) (cj h4 (cj (o_at ARat.cells h5 h6) (cj h7 (cj h8 (cj (bs_sub h9) True.intro))))))))) (by kernel_rfl) hL
theorem l12 (p : List ARat) (i_8 : Int) (rV site_7 : ARange) (h1 : i_8 < 0) : Loop1 p i_8 rV site_7 (.tup [site_7.pv, .nilI]) :=
  L.done mixed tabOk (n := 141) (ns := [1]) (tr := [.auto, .reg [], .dec false, .reg []]) (cj (dle_f h1) True.intro) (by kernel_rfl)
end poly_Over

namespace poly_Compose
@[reducible] noncomputable def fn : Func := Tryz.f103
noncomputable def atK1 : List Itm := focus [0, 2, 0, 0, 2, 0, 2, 1, 2, 0, 0, 2, 1, 2, 0, 2, 0, 0, 2, 0, 0] [.code (bodyOf fn)]
def inv1 (p q out_7 : List ARat) (i_8 : Int) : St := ⟨[(0, (.pv (polyPV p))), (1, (.pv (polyPV q))), (7, (.pv (polyPV out_7))), (8, (eI i_8))], []⟩
@[reducible] noncomputable def Loop1 (p q out_7 : List ARat) (i_8 : Int) (r : PV) : Prop := L prg fn atK1 (inv1 p q out_7 i_8) r
theorem e0 (p q : List ARat) (deg deg1 : Int) (h1 : Contract prg 147 [(lpv (lcell ARat.cells) [p, q])] .nilI) (h2 : 1 < p.length) (h3 : 1 < q.length) (h4 : Contract prg 70 [(polyPV p)] (vI deg)) (h5 : Contract prg 70 [(polyPV q)] (vI deg1)) (h6 : InI64 (deg * deg1)) (h7 : 64 < (deg * deg1)) : Contract prg 103 [(polyPV p), (polyPV q)] (.tup [(polyPV []), (.iface 57 (vI 4))]) :=
  Contract.ofL Tryz.func103 (by kernel_rfl) (L.done mixed tabOk (n := 105) (ns := [3, 1, 1, 1, 1, 1, 1, 1, 1, 1, 1, 1, 1, 1, 1, 1, 1, 1, 1]) (tr := [.reg [], .reg [.none, .none, (.slc 0 0 (([p, q] : List (List ARat)).map (lcell ARat.cells))), (.pv .nilI)], .reg [], .auto, .reg [.none, (iI (p.length : Int)), .none, .none, .none, (iI (q.length : Int)), .none, (.dec true), .none, .none, (.pv (vI deg)), .none, (.pv (vI deg1)), (iI (deg * deg1)), .none, (.dec true)], .dec true, .reg []]) (cj (o_bs (sz_l ARat.cells) ([p, q] : List (List ARat))) (cj h1 (cj (o_len ARat.cells p) (cj (dltN_t h2) (cj (dltN_t h2) (cj (o_len ARat.cells q) (cj (dltN_t h2) (cj (dltN_t h2) (cj (dltN_t h3) (cj (dltN_t h3) (cj h4 (cj (dltN_t h3) (cj (dltN_t h3) (cj h5 (cj (dltN_t h3) (cj (bs_mul h6) (cj (dltN_t h3) (cj (dltN_t h3) (cj (dlt_t h7) True.intro))))))))))))))))))) (by kernel_rfl))
theorem e1 (p q : List ARat) (deg deg1 : Int) {r : PV} (h1 : Contract prg 147 [(lpv (lcell ARat.cells) [p, q])] .nilI) (h2 : 1 < p.length) (h3 : 1 < q.length) (h4 : Contract prg 70 [(polyPV p)] (vI deg)) (h5 : Contract prg 70 [(polyPV q)] (vI deg1)) (h6 : InI64 (deg * deg1)) (h7 : (deg * deg1) ≤ 64) (h8 : InI64 ((p.length : Int) - 1)) (hL : Loop1 p q [] ((p.length : Int) - 1) r) : Contract prg 103 [(polyPV p), (polyPV q)] r :=
  Contract.ofL Tryz.func103 (by kernel_rfl) (L.go mixed tabOk (n := 123) (ns := [3, 1, 1, 1, 1, 1, 1, 1, 1, 1, 1, 1, 1, 1, 1, 1, 1, 1, 1, 1, 1]) (tr := [.reg [], .reg [.none, .none, (.slc 0 0 (([p, q] : List (List ARat)).map (lcell ARat.cells))), (.pv .nilI)], .reg [], .auto, .reg [.none, (iI (p.length : Int)), .none, .none, .none, (iI (q.length : Int)), .none, (.dec true), .none, .none, (.pv (vI deg)), .none, (.pv (vI deg1)), (iI (deg * deg1)), .none, (.dec true)], .dec false, .reg [], .reg [.none, (iI (p.length : Int)), (iI ((p.length : Int) - 1))], .keep [0, 1, 7, 8]]) (cj (o_bs (sz_l ARat.cells) ([p, q] : List (List ARat))) (cj h1 (cj (o_len ARat.cells p) (cj (dltN_t h2) (cj (dltN_t h2) (cj (o_len ARat.cells q) (cj (dltN_t h2) (cj (dltN_t h2) (cj (dltN_t h3) (cj (dltN_t h3) (cj h4 (cj (dltN_t h3) (cj (dltN_t h3) (cj h5 (cj (dltN_t h3) (cj (bs_mul h6) (cj (dltN_t h3) (cj (dltN_t h3) (cj (dlt_f h7) (cj (o_len ARat.cells p) (cj (bs_sub h8) True.intro))))))))))))))))))))) (by kernel_rfl) hL)
theorem e2 (p q : List ARat) {r : PV} (h1 : Contract prg 147 [(lpv (lcell ARat.cells) [p, q])] .nilI) (h2 : 1 < p.length) (h3 : q.length ≤ 1) (h4 : InI64 ((p.length : Int) - 1)) (hL : Loop1 p q [] ((p.length : Int) - 1) r) : Contract prg 103 [(polyPV p), (polyPV q)] r :=
  Contract.ofL Tryz.func103 (by kernel_rfl) (L.go mixed tabOk (n := 123) (ns := [3, 1, 1, 1, 1, 1, 1, 1, 1, 1, 1, 1, 1, 1, 1, 1, 1]) (tr := [.reg [], .reg [.none, .none, (.slc 0 0 (([p, q] : List (List ARat)).map (lcell ARat.cells))), (.pv .nilI)], .reg [], .auto, .reg [.none, (iI (p.length : Int)), .none, .none, .none, (iI (q.length : Int)), .none, (.dec true), .none, .skip, .skip, .skip, .skip, .skip, .skip, (.dec false)], .auto, .reg [], .reg [.none, (iI (p.length : Int)), (iI ((p.length : Int) - 1))], .keep [0, 1, 7, 8]]) (cj (o_bs (sz_l ARat.cells) ([p, q] : List (List ARat))) (cj h1 (cj (o_len ARat.cells p) (cj (dltN_t h2) (cj (dltN_t h2) (cj (o_len ARat.cells q) (cj (dltN_t h2) (cj (dltN_t h2) (cj (dltN_f h3) (cj (dltN_f h3) (cj (dltN_f h3) (cj (dltN_f h3) (cj (dltN_f h3) (cj (dltN_f h3) (cj (dltN_f h3) (cj (o_len ARat.cells p) (cj (bs_sub h4) True.intro))))))))))))))))) (by kernel_rfl) hL)
theorem e3 (p q : List ARat) {r : PV} (h1 : Contract prg 147 [(lpv (lcell ARat.cells) [p, q])] .nilI) (h2 : p.length ≤ 1) (h3 : InI64 ((p.length : Int) - 1)) (hL : Loop1 p q [] ((p.length : Int) - 1) r) : Contract prg 103 [(polyPV p), (polyPV q)] r :=
  Contract.ofL Tryz.func103 (by kernel_rfl) (L.go mixed tabOk (n := 123) (ns := [3, 1, 1, 1, 1, 1, 1, 1, 1, 1, 1, 1, 1, 1, 1]) (tr := [.reg [], .reg [.none, .none, (.slc 0 0 (([p, q] : List (List ARat)).map (lcell ARat.cells))), (.pv .nilI)], .reg [], .auto, .reg [.none, (iI (p.length : Int)), .none, .none, .skip, .skip, .skip, (.dec false), .none, .skip, .skip, .skip, .skip, .skip, .skip], .auto, .reg [], .reg [.none, (iI (p.length : Int)), (iI ((p.length : Int) - 1))], .keep [0, 1, 7, 8]]) (cj (o_bs (sz_l ARat.cells) ([p, q] : List (List ARat))) (cj h1 (cj (o_len ARat.cells p) (cj (dltN_f h2) (cj (dltN_f h2) (cj (dltN_f h2) (cj (dltN_f h2) (cj (Eq.refl false) (cj (Eq.refl false) (cj (Eq.refl false) (cj (Eq.refl false) (cj (Eq.refl false) (cj (Eq.refl false) (cj (o_len ARat.cells p) (cj (bs_sub h3) True.intro))))))))))))))) (by kernel_rfl) hL)
theorem e4 (p q : List ARat) (che : Int) (h1 : Contract prg 147 [(lpv (lcell ARat.cells) [p, q])] (.iface 57 (vI che))) : Contract prg 103 [(polyPV p), (polyPV q)] (.tup [(polyPV []), (.iface 57 (vI che))]) :=
  Contract.ofL Tryz.func103 (by kernel_rfl) (L.done mixed tabOk (n := 90) (ns := [3, 1]) (tr := [.reg [], .reg [.none, .none, (.slc 0 0 (([p, q] : List (List ARat)).map (lcell ARat.cells))), (.pv (.iface 57 (vI che)))], .reg [], .auto, .reg []]) (cj (o_bs (sz_l ARat.cells) ([p, q] : List (List ARat))) (cj h1 True.intro)) (by kernel_rfl))
theorem l10 (p q out_7 : List ARat) (i_8 : Int) (tim : List ARat) (l u : Nat) (tri : List ARat) (of : ARat) (plu : List ARat) {r : PV} (h1 : 0 ≤ i_8) (h2 : Contract prg 149 [(polyPV out_7), (polyPV q)] (polyPV tim)) (h3 : InI64 (i_8 + 1)) (h4 : i_8 = (l : Int)) (h5 : (i_8 + 1) = (u : Int)) (h6 : u ≤ p.length) (h7 : l ≤ u) (h8 : Contract prg 55 [(polyPV ((p.take u).drop l))] (polyPV tri)) (h9 : Contract prg 33 [(vI 1)] of.pv) (h10 : Contract prg 148 [(polyPV tim), (polyPV tri), of.pv] (polyPV plu)) (h11 : InI64 (i_8 - 1)) (hL : Loop1 p q plu (i_8 - 1) r) : Loop1 p q out_7 i_8 r :=
  L.go mixed tabOk (n := 156) (ns := [1, 1, 1, 6, 1, 1, 1, 1]) (tr := [.auto, .reg [], .dec true, dr 11 1 [.none, .none, (.pv (polyPV tim)), .none, .none, .none, (iI (i_8 + 1)), (.slc l u ((((p.take u).drop l) : List ARat).map ARat.cells)), (.pv (polyPV tri)), (.pv of.pv), (.pv (polyPV plu))], .reg [.none, (iI (i_8 - 1))], .keep [0, 1, 7, 8]]) (cj (dle_t h1) (cj h2 (cj (bs_add h3) (cj (o_sl sz_ARat (p : List ARat) h4 h5 h7 h6) (cj h8 (cj h9 (cj h10 (cj (bs_sub h11) True.intro)))))))) (by kernel_rfl) hL
theorem l11 (p q out_7 : List ARat) (i_8 : Int) (h1 : i_8 < 0) : Loop1 p q out_7 i_8 (.tup [(polyPV out_7), .nilI]) :=
  L.done mixed tabOk (n := 156) (ns := [1]) (tr := [.auto, .reg [], .dec false, .reg []]) (cj (dle_f h1) True.intro) (by kernel_rfl)
end poly_Compose

namespace poly_checks
@[reducible] noncomputable def fn : Func := Tryz.f147
noncomputable def atK1 : List Itm := focus [0, 2, 0, 0, 2, 0, 0] [.code (bodyOf fn)]
def inv1 (list : List (List ARat)) (t_8 : Nat) : St := ⟨[(6, (.pv (lpv (lcell ARat.cells) list))), (7, (eI (list.length : Int))), (8, (eI (t_8 : Int)))], []⟩
@[reducible] noncomputable def Loop1 (list : List (List ARat)) (t_8 : Nat) (r : PV) : Prop := L prg fn atK1 (inv1 list t_8) r
theorem e0 (list : List (List ARat)) {r : PV}  (hL : Loop1 list 0 r) : Contract prg 147 [(lpv (lcell ARat.cells) list)] r :=
  Contract.ofL Tryz.func147 (by kernel_rfl) (L.go mixed tabOk (n := 81) (ns := [1]) (tr := [.reg [], .reg [.none, (iI (list.length : Int))], .keep [6, 7, 8]]) (cj (o_len (lcell ARat.cells) list) True.intro) (by kernel_rfl) hL)
theorem l10 (list : List (List ARat)) (t_8 : Nat) (v : List ARat) {r : PV} (h1 : t_8 < list.length) (h2 : list[t_8]? = some v) (h3 : Contract prg 61 [(polyPV v)] .nilI) (h4 : (t_8 + 1) < 9223372036854775808) (hL : Loop1 list (t_8 + 1) r) : Loop1 list t_8 r :=
  L.go mixed tabOk (n := 135) (ns := [1, 3, 1, 1]) (tr := [.auto, .reg [], .dec true, .reg [(.row t_8 ((lcell ARat.cells) v))], .reg [.none, (.pv .nilI)], .reg [], .auto, .reg [(iI (((t_8 + 1) : Nat) : Int))], .keep [6, 7, 8]]) (cj (dltN_t h1) (cj (o_at (lcell ARat.cells) (Eq.refl (((t_8 : Nat) : Int) : Int)) h2) (cj h3 (cj (bs_addN h4) True.intro)))) (by kernel_rfl) hL
theorem l11 (list : List (List ARat)) (t_8 : Nat) (v : List ARat) (che : Int) (h1 : t_8 < list.length) (h2 : list[t_8]? = some v) (h3 : Contract prg 61 [(polyPV v)] (.iface 57 (vI che))) : Loop1 list t_8 (.iface 57 (vI che)) :=
  L.done mixed tabOk (n := 132) (ns := [1, 3, 1]) (tr := [.auto, .reg [], .dec true, .reg [(.row t_8 ((lcell ARat.cells) v))], .reg [.none, (.pv (.iface 57 (vI che)))], .reg [], .auto, .reg []]) (cj (dltN_t h1) (cj (o_at (lcell ARat.cells) (Eq.refl (((t_8 : Nat) : Int) : Int)) h2) (cj h3 True.intro))) (by kernel_rfl)
theorem l12 (list : List (List ARat)) (t_8 : Nat) (h1 : list.length ≤ t_8) : Loop1 list t_8 .nilI :=
  L.done mixed tabOk (n := 114) (ns := [1]) (tr := [.auto, .reg [], .dec false, .reg []]) (cj (dltN_f h1) True.intro) (by kernel_rfl)
end poly_checks

namespace poly_plus
@[reducible] noncomputable def fn : Func := Tryz.f148
noncomputable def atK1 : List Itm := focus [0, 2, 0, 2, 0, 0, 2, 0, 0] [.code (bodyOf fn)]
def inv1 (p q : List ARat) (t_17 : Nat) (c : ARat) (site_14 : List ARat) : St := ⟨[(0, (.pv (polyPV p))), (1, (.pv (polyPV q))), (5, (.ptr 5 0)), (7, (.row 14 0 (max p.length q.length) 3)), (16, (eI (((max p.length q.length) : Nat) : Int))), (17, (eI (t_17 : Int)))], [(5, (.lit [(eB c.neg), (.pv (wordsPV c.num)), (.pv (wordsPV c.den))])), (14, (.pure ((site_14 : List ARat).map ARat.cells).flatten))]⟩
@[reducible] noncomputable def Loop1 (p q : List ARat) (t_17 : Nat) (c : ARat) (site_14 : List ARat) (r : PV) : Prop := L prg fn atK1 (inv1 p q t_17 c site_14) r
theorem e0 (p q : List ARat) (c : ARat) {r : PV} (h1 : 56 * (max p.length q.length) ≤ 140737488355328) (hL : Loop1 p q 0 c (List.replicate (max p.length q.length) (⟨false, [], []⟩ : ARat)) r) : Contract prg 148 [(polyPV p), (polyPV q), c.pv] r :=
  Contract.ofL Tryz.func148 (by kernel_rfl) (L.go mixed tabOk (n := 87) (ns := [1, 1, 1, 5]) (tr := [.reg [], .reg [.none, (iI (p.length : Int)), .none, (iI (q.length : Int)), (iI (((max p.length q.length) : Nat) : Int)), (.app (max p.length q.length) ((List.replicate (max p.length q.length) (⟨false, [], []⟩ : ARat) : List ARat).map ARat.cells).flatten)], .reg [], .keep [0, 1, 5, 7, 16, 17], .ord [5, 14]]) (cj (o_len ARat.cells p) (cj (o_len ARat.cells q) (cj (o_maxN p.length q.length) (cj (o_mk ARat.cells (⟨false, [], []⟩ : ARat) 56 (max p.length q.length) (Eq.refl ((((max p.length q.length) : Nat) : Int) : Int)) h1 rfl) True.intro)))) (by kernel_rfl) hL)
theorem l10 (p q : List ARat) (t_17 : Nat) (c : ARat) (site_14 : List ARat) (coe coe1 mul add : ARat) {r : PV} (h1 : t_17 < (max p.length q.length)) (h2 : Contract prg 180 [(polyPV p), (vI (t_17 : Int))] coe.pv) (h3 : Contract prg 180 [(polyPV q), (vI (t_17 : Int))] coe1.pv) (h4 : Contract prg 54 [c.pv, coe1.pv] mul.pv) (h5 : Contract prg 32 [coe.pv, mul.pv] add.pv) (h6 : t_17 < site_14.length) (h7 : (t_17 + 1) < 9223372036854775808) (hL : Loop1 p q (t_17 + 1) c (site_14.set t_17 add) r) : Loop1 p q t_17 c site_14 r :=
  L.go mixed tabOk (n := 126) (ns := [1, 1, 1, 1, 1, 2, 2, 1]) (tr := [.auto, .reg [], .dec true, .reg [], dr 12 1 [.none, .none, .none, .none, (.pv coe.pv), .none, .none, .none, (.pv coe1.pv), (.pv mul.pv), (.pv add.pv), (.nat t_17), (.cells (.pure (((site_14.set t_17 add) : List ARat).map ARat.cells).flatten))], .reg [(iI (((t_17 + 1) : Nat) : Int))], .keep [0, 1, 5, 7, 16, 17]]) (cj (dltN_t h1) (cj h2 (cj h3 (cj h4 (cj h5 (cj (cj (Eq.refl (((t_17 : Nat) : Int) : Int)) h1) (cj (o_set sz_ARat (site_14 : List ARat) add h6) (cj (bs_addN h7) True.intro)))))))) (by kernel_rfl) hL
theorem l11 (p q : List ARat) (t_17 : Nat) (c : ARat) (site_14 tri : List ARat) (h1 : (max p.length q.length) ≤ t_17) (h2 : (max p.length q.length) = site_14.length) (h3 : Contract prg 55 [(polyPV site_14)] (polyPV tri)) : Loop1 p q t_17 c site_14 (polyPV tri) :=
  L.done mixed tabOk (n := 120) (ns := [1, 3, 1]) (tr := [.auto, .reg [], .dec false, .frzT 7 ((site_14 : List ARat).map ARat.cells), .reg [.none, (.pv (polyPV tri))]]) (cj (dltN_f h1) (cj (o_frz sz_ARat (site_14 : List ARat) h2) (cj h3 True.intro))) (by kernel_rfl)
end poly_plus

namespace poly_times
@[reducible] noncomputable def fn : Func := Tryz.f149
noncomputable def atK1 : List Itm := focus [0, 2, 0, 0, 2, 1, 2, 0, 2, 0, 0, 2, 0, 0] [.code (bodyOf fn)]
def inv1 (q : List ARat) (m : Nat) (p : List ARat) (t_27 : Nat) (site_24 : List ARat) : St := ⟨[(1, (.pv (polyPV q))), (5, (.row 24 0 m 3)), (25, (.pv (polyPV p))), (26, (eI (p.length : Int))), (27, (eI (t_27 : Int)))], [(24, (.pure ((site_24 : List ARat).map ARat.cells).flatten))]⟩
@[reducible] noncomputable def Loop1 (q : List ARat) (m : Nat) (p : List ARat) (t_27 : Nat) (site_24 : List ARat) (r : PV) : Prop := L prg fn atK1 (inv1 q m p t_27 site_24) r
noncomputable def atK2 : List Itm := focus [0, 2, 0, 0, 2, 1, 2, 0, 2, 0, 0, 2, 0, 0, 0, 0, 2, 0, 0, 2, 0, 0, 0, 2, 0, 2, 0, 0] [.code (bodyOf fn)]
def inv2 (q : List ARat) (m i_6 : Nat) (p : List ARat) (t_27 t_34 : Nat) (v : ARat) (site_24 : List ARat) : St := ⟨[(1, (.pv (polyPV q))), (5, (.row 24 0 m 3)), (6, (eI (i_6 : Int))), (7, (.ptr 7 0)), (25, (.pv (polyPV p))), (26, (eI (p.length : Int))), (27, (eI (t_27 : Int))), (32, (.pv (polyPV q))), (33, (eI (q.length : Int))), (34, (eI (t_34 : Int)))], [(7, (.lit [(eB v.neg), (.pv (wordsPV v.num)), (.pv (wordsPV v.den))])), (24, (.pure ((site_24 : List ARat).map ARat.cells).flatten))]⟩
@[reducible] noncomputable def Loop2 (q : List ARat) (m i_6 : Nat) (p : List ARat) (t_27 t_34 : Nat) (v : ARat) (site_24 : List ARat) (r : PV) : Prop := L prg fn atK2 (inv2 q m i_6 p t_27 t_34 v site_24) r
theorem e0 (p q : List ARat) (h1 : p.length = 0) : Contract prg 149 [(polyPV p), (polyPV q)] (polyPV []) :=
  Contract.ofL Tryz.func149 (by kernel_rfl) (L.done mixed tabOk (n := 84) (ns := [1, 1, 1, 1, 1]) (tr := [.reg [], .reg [.none, (iI (p.length : Int)), .none, .none, .skip, .skip, .skip, (.dec true)], .auto, .reg []]) (cj (o_len ARat.cells p) (cj (deqN_t h1) (cj (deqN_t h1) (cj (deqN_t h1) (cj (deqN_t h1) True.intro))))) (by kernel_rfl))
theorem e1 (p q : List ARat) (h1 : p.length ≠ 0) (h2 : q.length = 0) : Contract prg 149 [(polyPV p), (polyPV q)] (polyPV []) :=
  Contract.ofL Tryz.func149 (by kernel_rfl) (L.done mixed tabOk (n := 84) (ns := [1, 1, 1, 1, 1, 1, 1]) (tr := [.reg [], .reg [.none, (iI (p.length : Int)), .none, .none, .none, (iI (q.length : Int)), .none, (.dec false)], .dec true, .reg []]) (cj (o_len ARat.cells p) (cj (deqN_f h1) (cj (deqN_f h1) (cj (o_len ARat.cells q) (cj (deqN_f h1) (cj (deqN_f h1) (cj (deqN_t h2) True.intro))))))) (by kernel_rfl))
theorem e2 (p q : List ARat) (m : Nat) {r : PV} (h1 : p.length ≠ 0) (h2 : q.length ≠ 0) (h3 : (p.length + q.length) < 9223372036854775808) (h4 : InI64 ((((p.length + q.length) : Nat) : Int) - 1)) (h5 : ((((p.length + q.length) : Nat) : Int) - 1) = (m : Int)) (h6 : 56 * m ≤ 140737488355328) (hL : Loop1 q m p 0 (List.replicate m (⟨false, [], []⟩ : ARat)) r) : Contract prg 149 [(polyPV p), (polyPV q)] r :=
  Contract.ofL Tryz.func149 (by kernel_rfl) (L.go mixed tabOk (n := 102) (ns := [1, 1, 1, 1, 1, 1, 1, 1, 1, 1, 1, 5, 1]) (tr := [.reg [], .reg [.none, (iI (p.length : Int)), .none, .none, .none, (iI (q.length : Int)), .none, (.dec false)], .dec false, .reg [.none, (iI (p.length : Int)), .none, (iI (q.length : Int)), (iI (((p.length + q.length) : Nat) : Int)), (iI ((((p.length + q.length) : Nat) : Int) - 1)), (.app m ((List.replicate m (⟨false, [], []⟩ : ARat) : List ARat).map ARat.cells).flatten)], .reg [.none, (iI (p.length : Int))], .keep [1, 5, 25, 26, 27]]) (cj (o_len ARat.cells p) (cj (deqN_f h1) (cj (deqN_f h1) (cj (o_len ARat.cells q) (cj (deqN_f h1) (cj (deqN_f h1) (cj (deqN_f h2) (cj (o_len ARat.cells p) (cj (o_len ARat.cells q) (cj (bs_addN h3) (cj (bs_sub h4) (cj (o_mk ARat.cells (⟨false, [], []⟩ : ARat) 56 m h5 h6 rfl) (cj (o_len ARat.cells p) True.intro))))))))))))) (by kernel_rfl) hL)
theorem l10 (q : List ARat) (m : Nat) (p : List ARat) (t_27 : Nat) (site_24 : List ARat) (v : ARat) {r : PV} (h1 : t_27 < p.length) (h2 : p[t_27]? = some v) (hL : Loop2 q m t_27 p t_27 0 v site_24 r) : Loop1 q m p t_27 site_24 r :=
  L.go mixed tabOk (n := 144) (ns := [1, 3, 1]) (tr := [.auto, .reg [], .dec true, .reg [.none, (.row t_27 (ARat.cells v))], .reg [.none, (iI (q.length : Int))], .keep [1, 5, 6, 7, 25, 26, 27, 32, 33, 34]]) (cj (dltN_t h1) (cj (o_at ARat.cells (Eq.refl (((t_27 : Nat) : Int) : Int)) h2) (cj (o_len ARat.cells q) True.intro))) (by kernel_rfl) hL
theorem l11 (q : List ARat) (m : Nat) (p : List ARat) (t_27 : Nat) (site_24 tri : List ARat) (h1 : p.length ≤ t_27) (h2 : m = site_24.length) (h3 : Contract prg 55 [(polyPV site_24)] (polyPV tri)) : Loop1 q m p t_27 site_24 (polyPV tri) :=
  L.done mixed tabOk (n := 135) (ns := [1, 3, 1]) (tr := [.auto, .reg [], .dec false, .frzT 5 ((site_24 : List ARat).map ARat.cells), .reg [.none, (.pv (polyPV tri))]]) (cj (dltN_f h1) (cj (o_frz sz_ARat (site_24 : List ARat) h2) (cj h3 True.intro))) (by kernel_rfl)
theorem l20 (q : List ARat) (m i_6 : Nat) (p : List ARat) (t_27 t_34 : Nat) (v : ARat) (site_24 : List ARat) (v1 v2 mul add : ARat) {r : PV} (h1 : t_34 < q.length) (h2 : q[t_34]? = some v1) (h3 : (i_6 + t_34) < 9223372036854775808) (h4 : (i_6 + t_34) < m) (h5 : site_24[(i_6 + t_34)]? = some v2) (h6 : Contract prg 54 [v.pv, v1.pv] mul.pv) (h7 : Contract prg 32 [v2.pv, mul.pv] add.pv) (h8 : (i_6 + t_34) < site_24.length) (h9 : (t_34 + 1) < 9223372036854775808) (hL : Loop2 q m i_6 p t_27 (t_34 + 1) v (site_24.set (i_6 + t_34) add) r) : Loop2 q m i_6 p t_27 t_34 v site_24 r :=
  L.go mixed tabOk (n := 183) (ns := [1, 3, 1, 1, 2, 2, 1, 1, 2, 2, 1]) (tr := [.auto, .reg [], .dec true, .reg [.none, (.row t_34 (ARat.cells v1))], dr 15 1 [.none, .none, .none, (iI (((i_6 + t_34) : Nat) : Int)), .none, .none, .none, (iI (((i_6 + t_34) : Nat) : Int)), (.nat (i_6 + t_34)), (.seg [(vB v2.neg), (wordsPV v2.num), (wordsPV v2.den)]), .none, .none, (.pv mul.pv), (.pv add.pv), (.nat (i_6 + t_34)), (.cells (.pure (((site_24.set (i_6 + t_34) add) : List ARat).map ARat.cells).flatten))], .reg [(iI (((t_34 + 1) : Nat) : Int))], .keep [1, 5, 6, 7, 25, 26, 27, 32, 33, 34], .drop [9]]) (cj (dltN_t h1) (cj (o_at ARat.cells (Eq.refl (((t_34 : Nat) : Int) : Int)) h2) (cj (bs_addN h3) (cj (bs_addN h3) (cj (cj (Eq.refl ((((i_6 + t_34) : Nat) : Int) : Int)) h4) (cj (o_seg sz_ARat h5) (cj h6 (cj h7 (cj (cj (Eq.refl ((((i_6 + t_34) : Nat) : Int) : Int)) h4) (cj (o_set sz_ARat (site_24 : List ARat) add h8) (cj (bs_addN h9) True.intro))))))))))) (by kernel_rfl) hL
theorem l21 (q : List ARat) (m i_6 : Nat) (p : List ARat) (t_27 t_34 : Nat) (v : ARat) (site_24 : List ARat) {r : PV} (h1 : q.length ≤ t_34) (h2 : (t_27 + 1) < 9223372036854775808) (hL : Loop1 q m p (t_27 + 1) site_24 r) : Loop2 q m i_6 p t_27 t_34 v site_24 r :=
  L.go mixed tabOk (n := 177) (ns := [1, 1]) (tr := [.auto, .reg [], .dec false, .reg [(iI (((t_27 + 1) : Nat) : Int))], .keep [1, 5, 25, 26, 27], .drop [7]]) (cj (dltN_f h1) (cj (bs_addN h2) True.intro)) (by kernel_rfl) hL
end poly_times

namespace poly_coefficient
@[reducible] noncomputable def fn : Func := Tryz.f180
theorem e0 (p : List ARat) (i : Int) (k : Nat) (v : ARat) (h1 : i < (p.length : Int)) (h2 : i = (k : Int)) (h3 : p[k]? = some v) : Contract prg 180 [(polyPV p), (vI i)] v.pv :=
  Contract.ofL Tryz.func180 (by kernel_rfl) (L.done mixed tabOk (n := 84) (ns := [1, 1, 3]) (tr := [.reg [], .reg [.none, .none, (iI (p.length : Int))], .dec true, .reg [.none, .none, (.row k (ARat.cells v))]]) (cj (o_len ARat.cells p) (cj (dlt_t h1) (cj (o_at ARat.cells h2 h3) True.intro))) (by kernel_rfl))
theorem e1 (p : List ARat) (i : Int) (h1 : (p.length : Int) ≤ i) : Contract prg 180 [(polyPV p), (vI i)] ((⟨false, [], []⟩ : ARat).pv) :=
  Contract.ofL Tryz.func180 (by kernel_rfl) (L.done mixed tabOk (n := 87) (ns := [1, 1]) (tr := [.reg [], .reg [.none, .none, (iI (p.length : Int))], .dec false, .reg []]) (cj (o_len ARat.cells p) (cj (dlt_f h1) True.intro)) (by kernel_rfl))
end poly_coefficient

end Go.Proofs.YtcgbmnkgmepikaaGreat.Sym.Path


/-
  PRe: paths through functions (printed by a program of ours, wip/gen/gen2.py).
-/
namespace Go.Proofs.YtcgbmnkgmepikaaGreat.Sym.Path
open Go
set_option maxRecDepth 20000
set_option linter.unusedVariables false

namespace linkworkref05_Same
@[reducible] noncomputable def fn : Func := Tryz.f15
theorem e0 (p q : List ARat) (rat : Bool) (h1 : Contract prg 49 [(polyPV p), (polyPV q)] (vB rat)) : Contract prg 15 [(polyPV p), (polyPV q)] (vB rat) :=
  Contract.ofL Tryz.func15 (by kernel_rfl) (L.done mixed tabOk (n := 72) (ns := [1]) (tr := [.reg [], .reg [.none, .none, (.pv (vB rat))]]) (cj h1 True.intro) (by kernel_rfl))
end linkworkref05_Same

namespace linkworkref05_Trim
@[reducible] noncomputable def fn : Func := Tryz.f60
noncomputable def atK1 : List Itm := focus [0, 2, 0, 2, 0, 0, 2, 0, 0] [.code (bodyOf fn)]
def inv1 (site_17 l : List ARat) (t_8 : Nat) : St := ⟨[(3, (.row 17 0 site_17.length 3)), (6, (.pv (polyPV l))), (7, (eI (l.length : Int))), (8, (eI (t_8 : Int)))], [(17, (.pure ((site_17 : List ARat).map ARat.cells).flatten))]⟩
@[reducible] noncomputable def Loop1 (site_17 l : List ARat) (t_8 : Nat) (r : PV) : Prop := L prg fn atK1 (inv1 site_17 l t_8) r
noncomputable def atK2 : List Itm := focus [0, 2, 0, 2, 0, 0, 2, 0, 0, 0, 0, 2, 0, 1, 2, 2, 2, 2, 0, 0, 0] [.code (bodyOf fn)]
def inv2 (site_17 : List ARat) : St := ⟨[(3, (.row 17 0 site_17.length 3))], [(17, (.pure ((site_17 : List ARat).map ARat.cells).flatten))]⟩
@[reducible] noncomputable def Loop2 (site_17 : List ARat) (r : PV) : Prop := L prg fn atK2 (inv2 site_17) r
theorem e0 (l : List ARat) {r : PV}  (hL : Loop1 [] l 0 r) : Contract prg 60 [(polyPV l)] r :=
  Contract.ofL Tryz.func60 (by kernel_rfl) (L.go mixed tabOk (n := 87) (ns := [1]) (tr := [.reg [], .reg [.nil], .adopt 3 17 3, .reg [.none, (iI (l.length : Int))], .keep [3, 6, 7, 8]]) (cj (o_len ARat.cells l) True.intro) (by kernel_rfl) hL)
theorem l10 (site_17 l : List ARat) (t_8 : Nat) (v add : ARat) {r : PV} (h1 : t_8 < l.length) (h2 : l[t_8]? = some v) (h3 : Contract prg 105 [v.pv, (⟨false, [], []⟩ : ARat).pv] add.pv) (h4 : ((site_17 ++ [add]) : List ARat).length * 56 ≤ 140737488355328) (h5 : (t_8 + 1) < 9223372036854775808) (hL : Loop1 (site_17 ++ [add]) l (t_8 + 1) r) : Loop1 site_17 l t_8 r :=
  L.go mixed tabOk (n := 126) (ns := [1, 3, 1, 6, 1]) (tr := [.auto, .reg [], .dec true, .reg [(.row t_8 (ARat.cells v))], .reg [.none, .none, .none, (.pv add.pv), .none, (.app ((site_17 ++ [add]) : List ARat).length (((site_17 ++ [add]) : List ARat).map ARat.cells).flatten)], .reg [(iI (((t_8 + 1) : Nat) : Int))], .keep [3, 6, 7, 8], .drop [16, 5]]) (cj (dltN_t h1) (cj (o_at ARat.cells (Eq.refl (((t_8 : Nat) : Int) : Int)) h2) (cj h3 (cj (o_appR sz_ARat (site_17 : List ARat) ([add] : List ARat) 56 (Eq.refl (site_17 : List ARat).length) (Eq.refl ([add] : List ARat).length) h4 rfl) (cj (bs_addN h5) True.intro))))) (by kernel_rfl) hL
theorem l11 (site_17 l : List ARat) (t_8 : Nat) {r : PV} (h1 : l.length ≤ t_8) (hL : Loop2 site_17 r) : Loop1 site_17 l t_8 r :=
  L.go mixed tabOk (n := 123) (ns := [1]) (tr := [.auto, .reg [], .dec false, .keep [3]]) (cj (dltN_f h1) True.intro) (by kernel_rfl) hL
theorem l20 (site_17 : List ARat) (k : Nat) (v : ARat) (sig : Int) (u : Nat) {r : PV} (h1 : 0 < site_17.length) (h2 : InI64 ((site_17.length : Int) - 1)) (h3 : ((site_17.length : Int) - 1) = (k : Int)) (h4 : k < site_17.length) (h5 : site_17[k]? = some v) (h6 : Contract prg 19 [v.pv] (vI sig)) (h7 : sig = 0) (h8 : ((site_17.length : Int) - 1) = (u : Int)) (h9 : u ≤ (site_17 : List ARat).length) (hL : Loop2 (site_17.take u) r) : Loop2 site_17 r :=
  L.go mixed tabOk (n := 150) (ns := [1, 1, 1, 1, 1, 1, 2, 1, 2, 1, 1, 1, 1, 1, 1, 5, 1]) (tr := [.auto, .reg [.none, .none, .none, .none, .none, .none, .none, (iI ((site_17.length : Int) - 1)), (.nat k), (.seg [(vB v.neg), (wordsPV v.num), (wordsPV v.den)]), (.pv (vI sig)), .none, (.dec true)], .dec true, .reg [.none, .none, .none, (iI ((site_17.length : Int) - 1)), (.slc 0 ((site_17.take u).length) [])], .cut 17 (u * 3) (((site_17.take u) : List ARat).map ARat.cells).flatten, .keep [3]]) (cj (dltN_t h1) (cj (dltN_t h1) (cj (dltN_t h1) (cj (dltN_t h1) (cj (bs_sub h2) (cj (dltN_t h1) (cj (cj h3 h4) (cj (dltN_t h1) (cj (o_seg sz_ARat h5) (cj (dltN_t h1) (cj h6 (cj (dltN_t h1) (cj (dltN_t h1) (cj (deq_t h7) (cj (bs_sub h2) (cj (o_sr0 (site_17 : List ARat) h8 h9) (cj (o_cut sz_ARat (site_17 : List ARat) u) True.intro))))))))))))))))) (by kernel_rfl) hL
theorem l21 (site_17 : List ARat) (k : Nat) (v : ARat) (sig : Int) (h1 : 0 < site_17.length) (h2 : InI64 ((site_17.length : Int) - 1)) (h3 : ((site_17.length : Int) - 1) = (k : Int)) (h4 : k < site_17.length) (h5 : site_17[k]? = some v) (h6 : Contract prg 19 [v.pv] (vI sig)) (h7 : sig ≠ 0) : Loop2 site_17 (polyPV site_17) :=
  L.done mixed tabOk (n := 156) (ns := [1, 1, 1, 1, 1, 1, 2, 1, 2, 1, 1, 1, 1, 1, 3]) (tr := [.auto, .reg [.none, .none, .none, .none, .none, .none, .none, (iI ((site_17.length : Int) - 1)), (.nat k), (.seg [(vB v.neg), (wordsPV v.num), (wordsPV v.den)]), (.pv (vI sig)), .none, (.dec true)], .dec false, .reg [], .frzT 2 ((site_17 : List ARat).map ARat.cells)]) (cj (dltN_t h1) (cj (dltN_t h1) (cj (dltN_t h1) (cj (dltN_t h1) (cj (bs_sub h2) (cj (dltN_t h1) (cj (cj h3 h4) (cj (dltN_t h1) (cj (o_seg sz_ARat h5) (cj (dltN_t h1) (cj h6 (cj (dltN_t h1) (cj (dltN_t h1) (cj (deq_f h7) (cj (o_frz sz_ARat (site_17 : List ARat) (Eq.refl (site_17 : List ARat).length)) True.intro))))))))))))))) (by kernel_rfl)
theorem l22 (site_17 : List ARat) (h1 : site_17.length ≤ 0) : Loop2 site_17 (polyPV site_17) :=
  L.done mixed tabOk (n := 156) (ns := [1, 1, 1, 1, 1, 1, 1, 1, 1, 3]) (tr := [.auto, .reg [.none, .none, .none, .none, .skip, .skip, .skip, .skip, .skip, .skip, .skip, .skip, (.dec false)], .auto, .reg [], .frzT 2 ((site_17 : List ARat).map ARat.cells)]) (cj (dltN_f h1) (cj (dltN_f h1) (cj (dltN_f h1) (cj (dltN_f h1) (cj (dltN_f h1) (cj (dltN_f h1) (cj (dltN_f h1) (cj (dltN_f h1) (cj (dltN_f h1) (cj (o_frz sz_ARat (site_17 : List ARat) (Eq.refl (site_17 : List ARat).length)) True.intro)))))))))) (by kernel_rfl)
end linkworkref05_Trim

namespace linkworkref05_Check
@[reducible] noncomputable def fn : Func := Tryz.f69
noncomputable def atK1 : List Itm := focus [0, 2, 0, 0, 2, 1, 2, 0, 0, 2, 0, 0] [.code (bodyOf fn)]
def inv1 (p : List ARat) (t_10 : Nat) : St := ⟨[(0, (.pv (polyPV p))), (8, (.pv (polyPV p))), (9, (eI (p.length : Int))), (10, (eI (t_10 : Int)))], []⟩
@[reducible] noncomputable def Loop1 (p : List ARat) (t_10 : Nat) (r : PV) : Prop := L prg fn atK1 (inv1 p t_10) r
theorem e0 (p : List ARat) (h1 : 65 < p.length) : Contract prg 69 [(polyPV p)] (vI 4) :=
  Contract.ofL Tryz.func69 (by kernel_rfl) (L.done mixed tabOk (n := 84) (ns := [1, 1]) (tr := [.reg [], .reg [.none, (iI (p.length : Int))], .dec true, .reg []]) (cj (o_len ARat.cells p) (cj (dltN_t h1) True.intro)) (by kernel_rfl))
theorem e1 (p : List ARat) {r : PV} (h1 : p.length ≤ 65) (hL : Loop1 p 0 r) : Contract prg 69 [(polyPV p)] r :=
  Contract.ofL Tryz.func69 (by kernel_rfl) (L.go mixed tabOk (n := 96) (ns := [1, 1, 1]) (tr := [.reg [], .reg [.none, (iI (p.length : Int))], .dec false, .reg [.none, (iI (p.length : Int))], .keep [0, 8, 9, 10]]) (cj (o_len ARat.cells p) (cj (dltN_f h1) (cj (o_len ARat.cells p) True.intro))) (by kernel_rfl) hL)
theorem l10 (p : List ARat) (t_10 : Nat) (v : ARat) (val : Bool) (h1 : t_10 < p.length) (h2 : p[t_10]? = some v) (h3 : Contract prg 28 [v.pv] (vB val)) (h4 : val = false) : Loop1 p t_10 (vI 2) :=
  L.done mixed tabOk (n := 141) (ns := [1, 3, 1, 1]) (tr := [.auto, .reg [], .dec true, .reg [(.row t_10 (ARat.cells v))], .reg [.none, (.pv (vB val))], .dec true, .reg []]) (cj (dltN_t h1) (cj (o_at ARat.cells (Eq.refl (((t_10 : Nat) : Int) : Int)) h2) (cj h3 (cj (bnot_t h4) True.intro)))) (by kernel_rfl)
theorem l11 (p : List ARat) (t_10 : Nat) (v : ARat) (val : Bool) {r : PV} (h1 : t_10 < p.length) (h2 : p[t_10]? = some v) (h3 : Contract prg 28 [v.pv] (vB val)) (h4 : val = true) (h5 : (t_10 + 1) < 9223372036854775808) (hL : Loop1 p (t_10 + 1) r) : Loop1 p t_10 r :=
  L.go mixed tabOk (n := 144) (ns := [1, 3, 1, 1, 1]) (tr := [.auto, .reg [], .dec true, .reg [(.row t_10 (ARat.cells v))], .reg [.none, (.pv (vB val))], .dec false, .reg [(iI (((t_10 + 1) : Nat) : Int))], .keep [0, 8, 9, 10], .drop [4]]) (cj (dltN_t h1) (cj (o_at ARat.cells (Eq.refl (((t_10 : Nat) : Int) : Int)) h2) (cj h3 (cj (bnot_f h4) (cj (bs_addN h5) True.intro))))) (by kernel_rfl) hL
theorem l12 (p : List ARat) (t_10 k : Nat) (v : ARat) (sig : Int) (h1 : p.length ≤ t_10) (h2 : 0 < p.length) (h3 : InI64 ((p.length : Int) - 1)) (h4 : ((p.length : Int) - 1) = (k : Int)) (h5 : p[k]? = some v) (h6 : Contract prg 19 [v.pv] (vI sig)) (h7 : sig = 0) : Loop1 p t_10 (vI 8) :=
  L.done mixed tabOk (n := 141) (ns := [1, 1, 1, 1, 1, 1, 1, 1, 1, 3, 1, 1, 1, 1, 1, 1]) (tr := [.auto, .reg [], .dec false, .reg [.none, (iI (p.length : Int)), .none, .none, .none, .none, (iI (p.length : Int)), (iI ((p.length : Int) - 1)), (.row k (ARat.cells v)), .none, (.pv (vI sig)), .none, (.dec true)], .dec true, .reg []]) (cj (dltN_f h1) (cj (o_len ARat.cells p) (cj (dltN_t h2) (cj (dltN_t h2) (cj (dltN_t h2) (cj (o_len ARat.cells p) (cj (dltN_t h2) (cj (bs_sub h3) (cj (dltN_t h2) (cj (o_at ARat.cells h4 h5) (cj (dltN_t h2) (cj (dltN_t h2) (cj h6 (cj (dltN_t h2) (cj (dltN_t h2) (cj (deq_t h7) True.intro)))))))))))))))) (by kernel_rfl)
theorem l13 (p : List ARat) (t_10 k : Nat) (v : ARat) (sig : Int) (h1 : p.length ≤ t_10) (h2 : 0 < p.length) (h3 : InI64 ((p.length : Int) - 1)) (h4 : ((p.length : Int) - 1) = (k : Int)) (h5 : p[k]? = some v) (h6 : Contract prg 19 [v.pv] (vI sig)) (h7 : sig ≠ 0) : Loop1 p t_10 (vI 0) :=
  L.done mixed tabOk (n := 144) (ns := [1, 1, 1, 1, 1, 1, 1, 1, 1, 3, 1, 1, 1, 1, 1, 1]) (tr := [.auto, .reg [], .dec false, .reg [.none, (iI (p.length : Int)), .none, .none, .none, .none, (iI (p.length : Int)), (iI ((p.length : Int) - 1)), (.row k (ARat.cells v)), .none, (.pv (vI sig)), .none, (.dec true)], .dec false, .reg []]) (cj (dltN_f h1) (cj (o_len ARat.cells p) (cj (dltN_t h2) (cj (dltN_t h2) (cj (dltN_t h2) (cj (o_len ARat.cells p) (cj (dltN_t h2) (cj (bs_sub h3) (cj (dltN_t h2) (cj (o_at ARat.cells h4 h5) (cj (dltN_t h2) (cj (dltN_t h2) (cj h6 (cj (dltN_t h2) (cj (dltN_t h2) (cj (deq_f h7) True.intro)))))))))))))))) (by kernel_rfl)
theorem l14 (p : List ARat) (t_10 : Nat) (h1 : p.length ≤ t_10) (h2 : p.length ≤ 0) : Loop1 p t_10 (vI 0) :=
  L.done mixed tabOk (n := 144) (ns := [1, 1, 1, 1, 1, 1, 1, 1, 1, 1, 1]) (tr := [.auto, .reg [], .dec false, .reg [.none, (iI (p.length : Int)), .none, .none, .skip, .skip, .skip, .skip, .skip, .skip, .skip, .skip, (.dec false)], .auto, .reg []]) (cj (dltN_f h1) (cj (o_len ARat.cells p) (cj (dltN_f h2) (cj (dltN_f h2) (cj (dltN_f h2) (cj (dltN_f h2) (cj (dltN_f h2) (cj (dltN_f h2) (cj (dltN_f h2) (cj (dltN_f h2) (cj (dltN_f h2) True.intro))))))))))) (by kernel_rfl)
end linkworkref05_Check

namespace linkworkref05_At
@[reducible] noncomputable def fn : Func := Tryz.f77
noncomputable def atK1 : List Itm := focus [0, 2, 0, 2, 0, 0, 2, 0, 0] [.code (bodyOf fn)]
def inv1 (p : List ARat) (i_6 : Int) (x site_5 : ARat) : St := ⟨[(0, (.pv (polyPV p))), (3, (.ptr 3 0)), (4, (.ptr 4 0)), (5, (.ptr 5 0)), (6, (eI i_6))], [(3, (.lit [(eB x.neg), (.pv (wordsPV x.num)), (.pv (wordsPV x.den))])), (4, (.lit [(eB false), (.pv (.list [])), (.pv (.list []))])), (5, (.lit [(eB site_5.neg), (.pv (wordsPV site_5.num)), (.pv (wordsPV site_5.den))]))]⟩
@[reducible] noncomputable def Loop1 (p : List ARat) (i_6 : Int) (x site_5 : ARat) (r : PV) : Prop := L prg fn atK1 (inv1 p i_6 x site_5) r
theorem e0 (p : List ARat) (x : ARat) {r : PV} (h1 : InI64 ((p.length : Int) - 1)) (hL : Loop1 p ((p.length : Int) - 1) x (⟨false, [], []⟩ : ARat) r) : Contract prg 77 [(polyPV p), x.pv] r :=
  Contract.ofL Tryz.func77 (by kernel_rfl) (L.go mixed tabOk (n := 87) (ns := [1, 1]) (tr := [.reg [], .reg [], .reg [.none, (iI (p.length : Int)), (iI ((p.length : Int) - 1))], .keep [0, 3, 4, 5, 6], .ord [3, 4, 5]]) (cj (o_len ARat.cells p) (cj (bs_sub h1) True.intro)) (by kernel_rfl) hL)
theorem l10 (p : List ARat) (i_6 : Int) (x site_5 mul : ARat) (k : Nat) (v add : ARat) {r : PV} (h1 : 0 ≤ i_6) (h2 : Contract prg 57 [site_5.pv, x.pv] mul.pv) (h3 : i_6 = (k : Int)) (h4 : p[k]? = some v) (h5 : Contract prg 105 [mul.pv, v.pv] add.pv) (h6 : InI64 (i_6 - 1)) (hL : Loop1 p (i_6 - 1) x add r) : Loop1 p i_6 x site_5 r :=
  L.go mixed tabOk (n := 120) (ns := [1, 1, 3, 1, 1]) (tr := [.auto, .reg [], .dec true, dr 8 1 [.none, .none, (.pv mul.pv), .none, .none, (.row k (ARat.cells v)), .none, (.pv add.pv)], .reg [.none, (iI (i_6 - 1))], .keep [0, 3, 4, 5, 6]]) (cj (dle_t h1) (cj h2 (cj (o_at ARat.cells h3 h4) (cj h5 (cj (bs_sub h6) True.intro))))) (by kernel_rfl) hL
theorem l11 (p : List ARat) (i_6 : Int) (x site_5 : ARat) (h1 : i_6 < 0) : Loop1 p i_6 x site_5 site_5.pv :=
  L.done mixed tabOk (n := 120) (ns := [1]) (tr := [.auto, .reg [], .dec false, .reg []]) (cj (dle_f h1) True.intro) (by kernel_rfl)
end linkworkref05_At

namespace linkworkref05_Over
@[reducible] noncomputable def fn : Func := Tryz.f96
noncomputable def atK1 : List Itm := focus [0, 2, 0, 0, 2, 0, 2, 1, 2, 0, 2, 0, 0, 2, 0, 0] [.code (bodyOf fn)]
def inv1 (p : List ARat) (i_8 : Int) (rV site_7 : ARange) : St := ⟨[(0, (.pv (polyPV p))), (3, (.ptr 3 0)), (4, (.ptr 4 0)), (7, (.ptr 7 0)), (8, (eI i_8))], [(3, (.lit [(eB rV.lo.neg), (.pv (wordsPV rV.lo.num)), (.pv (wordsPV rV.lo.den)), (eB rV.hi.neg), (.pv (wordsPV rV.hi.num)), (.pv (wordsPV rV.hi.den))])), (4, (.lit [(eB false), (.pv (.list [])), (.pv (.list [])), (eB false), (.pv (.list [])), (.pv (.list []))])), (7, (.lit [(eB site_7.lo.neg), (.pv (wordsPV site_7.lo.num)), (.pv (wordsPV site_7.lo.den)), (eB site_7.hi.neg), (.pv (wordsPV site_7.hi.num)), (.pv (wordsPV site_7.hi.den))]))]⟩
@[reducible] noncomputable def Loop1 (p : List ARat) (i_8 : Int) (rV site_7 : ARange) (r : PV) : Prop := L prg fn atK1 (inv1 p i_8 rV site_7) r
theorem e0 (p : List ARat) (rV : ARange) (che : Int) (h1 : Contract prg 69 [(polyPV p)] (vI che)) (h2 : che ≠ 0) : Contract prg 96 [(polyPV p), rV.pv] (.tup [(⟨(⟨false, [], []⟩ : ARat), (⟨false, [], []⟩ : ARat)⟩ : ARange).pv, (vI che)]) :=
  Contract.ofL Tryz.func96 (by kernel_rfl) (L.done mixed tabOk (n := 90) (ns := [1, 1]) (tr := [.reg [], .reg [.none, (.pv (vI che))], .reg [], .dec true, .reg []]) (cj h1 (cj (dne_t h2) True.intro)) (by kernel_rfl))
theorem e1 (p : List ARat) (rV : ARange) (che : Int) {r : PV} (h1 : Contract prg 69 [(polyPV p)] (vI che)) (h2 : che = 0) (h3 : InI64 ((p.length : Int) - 1)) (hL : Loop1 p ((p.length : Int) - 1) rV (⟨(⟨false, [], []⟩ : ARat), (⟨false, [], []⟩ : ARat)⟩ : ARange) r) : Contract prg 96 [(polyPV p), rV.pv] r :=
  Contract.ofL Tryz.func96 (by kernel_rfl) (L.go mixed tabOk (n := 108) (ns := [1, 1, 1, 1]) (tr := [.reg [], .reg [.none, (.pv (vI che))], .reg [], .dec false, .reg [], .reg [.none, (iI (p.length : Int)), (iI ((p.length : Int) - 1))], .keep [0, 3, 4, 7, 8], .ord [3, 4, 7]]) (cj h1 (cj (dne_f h2) (cj (o_len ARat.cells p) (cj (bs_sub h3) True.intro)))) (by kernel_rfl) hL)
theorem l10 (p : List ARat) (i_8 : Int) (rV site_7 mul : ARange) (k : Nat) (v : ARat) (poi add : ARange) {r : PV} (h1 : 0 ≤ i_8) (h2 : Contract prg 140 [site_7.pv, rV.pv] mul.pv) (h3 : i_8 = (k : Int)) (h4 : p[k]? = some v) (h5 : Contract prg 141 [v.pv] poi.pv) (h6 : Contract prg 139 [mul.pv, poi.pv] add.pv) (h7 : InI64 (i_8 - 1)) (hL : Loop1 p (i_8 - 1) rV add r) : Loop1 p i_8 rV site_7 r :=
  L.go mixed tabOk (n := 141) (ns := [1, 1, 3, 1, 1, 1]) (tr := [.auto, .reg [], .dec true, dr 9 1 [.none, .none, (.pv mul.pv), .none, .none, (.row k (ARat.cells v)), .none, (.pv poi.pv), (.pv add.pv)], .reg [.none, (iI (i_8 - 1))], .keep [0, 3, 4, 7, 8]]) (cj (dle_t h1) (cj h2 (cj (o_at ARat.cells h3 h4) (cj h5 (cj h6 (cj (bs_sub h7) True.intro)))))) (by kernel_rfl) hL
theorem l11 (p : List ARat) (i_8 : Int) (rV site_7 : ARange) (h1 : i_8 < 0) : Loop1 p i_8 rV site_7 (.tup [site_7.pv, (vI 0)]) :=
  L.done mixed tabOk (n := 141) (ns := [1]) (tr := [.auto, .reg [], .dec false, .reg []]) (cj (dle_f h1) True.intro) (by kernel_rfl)
end linkworkref05_Over

namespace linkworkref05_Derive
@[reducible] noncomputable def fn : Func := Tryz.f119
theorem e0 (p : List ARat) (che : Int) (h1 : Contract prg 69 [(polyPV p)] (vI che)) (h2 : che ≠ 0) : Contract prg 119 [(polyPV p)] (.tup [(polyPV []), (vI che)]) :=
  Contract.ofL Tryz.func119 (by kernel_rfl) (L.done mixed tabOk (n := 90) (ns := [1, 1]) (tr := [.reg [], .reg [.none, (.pv (vI che))], .reg [], .dec true, .reg []]) (cj h1 (cj (dne_t h2) True.intro)) (by kernel_rfl))
theorem e1 (p : List ARat) (che : Int) (der : List ARat) (h1 : Contract prg 69 [(polyPV p)] (vI che)) (h2 : che = 0) (h3 : Contract prg 156 [(polyPV p)] (polyPV der)) : Contract prg 119 [(polyPV p)] (.tup [(polyPV der), (vI 0)]) :=
  Contract.ofL Tryz.func119 (by kernel_rfl) (L.done mixed tabOk (n := 93) (ns := [1, 1, 1]) (tr := [.reg [], .reg [.none, (.pv (vI che))], .reg [], .dec false, .reg [.none, (.pv (polyPV der))]]) (cj h1 (cj (dne_f h2) (cj h3 True.intro))) (by kernel_rfl))
end linkworkref05_Derive

namespace linkworkref05_Compose
@[reducible] noncomputable def fn : Func := Tryz.f151
noncomputable def atK1 : List Itm := focus [0, 2, 0, 0, 2, 0, 2, 1, 2, 0, 0, 2, 1, 2, 0, 2, 0, 0, 2, 0, 0] [.code (bodyOf fn)]
def inv1 (p q out_7 : List ARat) (i_8 : Int) : St := ⟨[(0, (.pv (polyPV p))), (1, (.pv (polyPV q))), (7, (.pv (polyPV out_7))), (8, (eI i_8))], []⟩
@[reducible] noncomputable def Loop1 (p q out_7 : List ARat) (i_8 : Int) (r : PV) : Prop := L prg fn atK1 (inv1 p q out_7 i_8) r
theorem e0 (p q : List ARat) (bot : Int) (h1 : Contract prg 181 [(polyPV p), (polyPV q)] (vI bot)) (h2 : bot ≠ 0) : Contract prg 151 [(polyPV p), (polyPV q)] (.tup [(polyPV []), (vI bot)]) :=
  Contract.ofL Tryz.func151 (by kernel_rfl) (L.done mixed tabOk (n := 90) (ns := [1, 1]) (tr := [.reg [], .reg [.none, .none, (.pv (vI bot))], .reg [], .dec true, .reg []]) (cj h1 (cj (dne_t h2) True.intro)) (by kernel_rfl))
theorem e1 (p q : List ARat) (bot : Int) (h1 : Contract prg 181 [(polyPV p), (polyPV q)] (vI bot)) (h2 : bot = 0) (h3 : 1 < p.length) (h4 : 1 < q.length) (h5 : InI64 ((p.length : Int) - 1)) (h6 : InI64 ((q.length : Int) - 1)) (h7 : InI64 (((p.length : Int) - 1) * ((q.length : Int) - 1))) (h8 : 64 < (((p.length : Int) - 1) * ((q.length : Int) - 1))) : Contract prg 151 [(polyPV p), (polyPV q)] (.tup [(polyPV []), (vI 4)]) :=
  Contract.ofL Tryz.func151 (by kernel_rfl) (L.done mixed tabOk (n := 105) (ns := [1, 1, 1, 1, 1, 1, 1, 1, 1, 1, 1, 1, 1, 1, 1, 1, 1, 1, 1, 1, 1, 1, 1]) (tr := [.reg [], .reg [.none, .none, (.pv (vI bot))], .reg [], .dec false, .reg [.none, (iI (p.length : Int)), .none, .none, .none, (iI (q.length : Int)), .none, (.dec true), .none, .none, (iI (p.length : Int)), (iI ((p.length : Int) - 1)), .none, (iI (q.length : Int)), (iI ((q.length : Int) - 1)), (iI (((p.length : Int) - 1) * ((q.length : Int) - 1))), .none, (.dec true)], .dec true, .reg []]) (cj h1 (cj (dne_f h2) (cj (o_len ARat.cells p) (cj (dltN_t h3) (cj (dltN_t h3) (cj (o_len ARat.cells q) (cj (dltN_t h3) (cj (dltN_t h3) (cj (dltN_t h4) (cj (dltN_t h4) (cj (o_len ARat.cells p) (cj (dltN_t h4) (cj (bs_sub h5) (cj (dltN_t h4) (cj (dltN_t h4) (cj (o_len ARat.cells q) (cj (dltN_t h4) (cj (bs_sub h6) (cj (dltN_t h4) (cj (bs_mul h7) (cj (dltN_t h4) (cj (dltN_t h4) (cj (dlt_t h8) True.intro))))))))))))))))))))))) (by kernel_rfl))
theorem e2 (p q : List ARat) (bot : Int) {r : PV} (h1 : Contract prg 181 [(polyPV p), (polyPV q)] (vI bot)) (h2 : bot = 0) (h3 : 1 < p.length) (h4 : 1 < q.length) (h5 : InI64 ((p.length : Int) - 1)) (h6 : InI64 ((q.length : Int) - 1)) (h7 : InI64 (((p.length : Int) - 1) * ((q.length : Int) - 1))) (h8 : (((p.length : Int) - 1) * ((q.length : Int) - 1)) ≤ 64) (hL : Loop1 p q [] ((p.length : Int) - 1) r) : Contract prg 151 [(polyPV p), (polyPV q)] r :=
  Contract.ofL Tryz.func151 (by kernel_rfl) (L.go mixed tabOk (n := 123) (ns := [1, 1, 1, 1, 1, 1, 1, 1, 1, 1, 1, 1, 1, 1, 1, 1, 1, 1, 1, 1, 1, 1, 1, 1, 1]) (tr := [.reg [], .reg [.none, .none, (.pv (vI bot))], .reg [], .dec false, .reg [.none, (iI (p.length : Int)), .none, .none, .none, (iI (q.length : Int)), .none, (.dec true), .none, .none, (iI (p.length : Int)), (iI ((p.length : Int) - 1)), .none, (iI (q.length : Int)), (iI ((q.length : Int) - 1)), (iI (((p.length : Int) - 1) * ((q.length : Int) - 1))), .none, (.dec true)], .dec false, .reg [], .reg [.none, (iI (p.length : Int)), (iI ((p.length : Int) - 1))], .keep [0, 1, 7, 8]]) (cj h1 (cj (dne_f h2) (cj (o_len ARat.cells p) (cj (dltN_t h3) (cj (dltN_t h3) (cj (o_len ARat.cells q) (cj (dltN_t h3) (cj (dltN_t h3) (cj (dltN_t h4) (cj (dltN_t h4) (cj (o_len ARat.cells p) (cj (dltN_t h4) (cj (bs_sub h5) (cj (dltN_t h4) (cj (dltN_t h4) (cj (o_len ARat.cells q) (cj (dltN_t h4) (cj (bs_sub h6) (cj (dltN_t h4) (cj (bs_mul h7) (cj (dltN_t h4) (cj (dltN_t h4) (cj (dlt_f h8) (cj (o_len ARat.cells p) (cj (bs_sub h5) True.intro))))))))))))))))))))))))) (by kernel_rfl) hL)
theorem e3 (p q : List ARat) (bot : Int) {r : PV} (h1 : Contract prg 181 [(polyPV p), (polyPV q)] (vI bot)) (h2 : bot = 0) (h3 : 1 < p.length) (h4 : q.length ≤ 1) (h5 : InI64 ((p.length : Int) - 1)) (hL : Loop1 p q [] ((p.length : Int) - 1) r) : Contract prg 151 [(polyPV p), (polyPV q)] r :=
  Contract.ofL Tryz.func151 (by kernel_rfl) (L.go mixed tabOk (n := 123) (ns := [1, 1, 1, 1, 1, 1, 1, 1, 1, 1, 1, 1, 1, 1, 1, 1, 1, 1, 1]) (tr := [.reg [], .reg [.none, .none, (.pv (vI bot))], .reg [], .dec false, .reg [.none, (iI (p.length : Int)), .none, .none, .none, (iI (q.length : Int)), .none, (.dec true), .none, .skip, .skip, .skip, .skip, .skip, .skip, .skip, .skip, (.dec false)], .auto, .reg [], .reg [.none, (iI (p.length : Int)), (iI ((p.length : Int) - 1))], .keep [0, 1, 7, 8]]) (cj h1 (cj (dne_f h2) (cj (o_len ARat.cells p) (cj (dltN_t h3) (cj (dltN_t h3) (cj (o_len ARat.cells q) (cj (dltN_t h3) (cj (dltN_t h3) (cj (dltN_f h4) (cj (dltN_f h4) (cj (dltN_f h4) (cj (dltN_f h4) (cj (dltN_f h4) (cj (dltN_f h4) (cj (dltN_f h4) (cj (dltN_f h4) (cj (dltN_f h4) (cj (o_len ARat.cells p) (cj (bs_sub h5) True.intro))))))))))))))))))) (by kernel_rfl) hL)
theorem e4 (p q : List ARat) (bot : Int) {r : PV} (h1 : Contract prg 181 [(polyPV p), (polyPV q)] (vI bot)) (h2 : bot = 0) (h3 : p.length ≤ 1) (h4 : InI64 ((p.length : Int) - 1)) (hL : Loop1 p q [] ((p.length : Int) - 1) r) : Contract prg 151 [(polyPV p), (polyPV q)] r :=
  Contract.ofL Tryz.func151 (by kernel_rfl) (L.go mixed tabOk (n := 123) (ns := [1, 1, 1, 1, 1, 1, 1, 1, 1, 1, 1, 1, 1, 1, 1, 1, 1]) (tr := [.reg [], .reg [.none, .none, (.pv (vI bot))], .reg [], .dec false, .reg [.none, (iI (p.length : Int)), .none, .none, .skip, .skip, .skip, (.dec false), .none, .skip, .skip, .skip, .skip, .skip, .skip, .skip, .skip], .auto, .reg [], .reg [.none, (iI (p.length : Int)), (iI ((p.length : Int) - 1))], .keep [0, 1, 7, 8]]) (cj h1 (cj (dne_f h2) (cj (o_len ARat.cells p) (cj (dltN_f h3) (cj (dltN_f h3) (cj (dltN_f h3) (cj (dltN_f h3) (cj (Eq.refl false) (cj (Eq.refl false) (cj (Eq.refl false) (cj (Eq.refl false) (cj (Eq.refl false) (cj (Eq.refl false) (cj (Eq.refl false) (cj (Eq.refl false) (cj (o_len ARat.cells p) (cj (bs_sub h4) True.intro))))))))))))))))) (by kernel_rfl) hL)
theorem l10 (p q out_7 : List ARat) (i_8 : Int) (tim : List ARat) (k : Nat) (v of : ARat) (plu : List ARat) {r : PV} (h1 : 0 ≤ i_8) (h2 : Contract prg 183 [(polyPV out_7), (polyPV q)] (polyPV tim)) (h3 : i_8 = (k : Int)) (h4 : p[k]? = some v) (h5 : Contract prg 58 [(vI 1)] of.pv) (h6 : Contract prg 182 [(polyPV tim), (polyPV [v]), of.pv, (vI 0)] (polyPV plu)) (h7 : InI64 (i_8 - 1)) (hL : Loop1 p q plu (i_8 - 1) r) : Loop1 p q out_7 i_8 r :=
  L.go mixed tabOk (n := 156) (ns := [1, 1, 3, 3, 1, 1, 1]) (tr := [.auto, .reg [], .dec true, dr 10 1 [.none, .none, (.pv (polyPV tim)), .none, .none, (.row k (ARat.cells v)), .none, (.slc 0 0 (([v] : List ARat).map ARat.cells)), (.pv of.pv), (.pv (polyPV plu))], .reg [.none, (iI (i_8 - 1))], .keep [0, 1, 7, 8]]) (cj (dle_t h1) (cj h2 (cj (o_at ARat.cells h3 h4) (cj (o_bs sz_ARat ([v] : List ARat)) (cj h5 (cj h6 (cj (bs_sub h7) True.intro))))))) (by kernel_rfl) hL
theorem l11 (p q out_7 : List ARat) (i_8 : Int) (h1 : i_8 < 0) : Loop1 p q out_7 i_8 (.tup [(polyPV out_7), (vI 0)]) :=
  L.done mixed tabOk (n := 156) (ns := [1]) (tr := [.auto, .reg [], .dec false, .reg []]) (cj (dle_f h1) True.intro) (by kernel_rfl)
end linkworkref05_Compose

namespace linkworkref05_derive
@[reducible] noncomputable def fn : Func := Tryz.f156
noncomputable def atK1 : List Itm := focus [0, 2, 0, 2, 0, 0, 2, 0, 0] [.code (bodyOf fn)]
def inv1 (site_21 p : List ARat) (t_8 : Nat) : St := ⟨[(3, (.row 21 0 site_21.length 3)), (6, (.pv (polyPV p))), (7, (eI (p.length : Int))), (8, (eI (t_8 : Int)))], [(21, (.pure ((site_21 : List ARat).map ARat.cells).flatten))]⟩
@[reducible] noncomputable def Loop1 (site_21 p : List ARat) (t_8 : Nat) (r : PV) : Prop := L prg fn atK1 (inv1 site_21 p t_8) r
theorem e0 (p : List ARat) {r : PV}  (hL : Loop1 [] p 0 r) : Contract prg 156 [(polyPV p)] r :=
  Contract.ofL Tryz.func156 (by kernel_rfl) (L.go mixed tabOk (n := 87) (ns := [1]) (tr := [.reg [], .reg [.nil], .adopt 3 21 3, .reg [.none, (iI (p.length : Int))], .keep [3, 6, 7, 8]]) (cj (o_len ARat.cells p) True.intro) (by kernel_rfl) hL)
theorem l10 (site_21 p : List ARat) (t_8 : Nat) (v of mul : ARat) {r : PV} (h1 : t_8 < p.length) (h2 : p[t_8]? = some v) (h3 : 0 < t_8) (h4 : Contract prg 58 [(vI (t_8 : Int))] of.pv) (h5 : Contract prg 57 [of.pv, v.pv] mul.pv) (h6 : ((site_21 ++ [mul]) : List ARat).length * 56 ≤ 140737488355328) (h7 : (t_8 + 1) < 9223372036854775808) (hL : Loop1 (site_21 ++ [mul]) p (t_8 + 1) r) : Loop1 site_21 p t_8 r :=
  L.go mixed tabOk (n := 135) (ns := [1, 3, 1, 1, 1, 6, 1]) (tr := [.auto, .reg [], .dec true, .reg [.none, (.row t_8 (ARat.cells v))], .reg [], .dec true, dr 6 2 [.none, .none, (.pv of.pv), .none, (.pv mul.pv), .none, (.app ((site_21 ++ [mul]) : List ARat).length (((site_21 ++ [mul]) : List ARat).map ARat.cells).flatten)], .reg [(iI (((t_8 + 1) : Nat) : Int))], .keep [3, 6, 7, 8], .drop [20, 5]]) (cj (dltN_t h1) (cj (o_at ARat.cells (Eq.refl (((t_8 : Nat) : Int) : Int)) h2) (cj (dltN_t h3) (cj h4 (cj h5 (cj (o_appR sz_ARat (site_21 : List ARat) ([mul] : List ARat) 56 (Eq.refl (site_21 : List ARat).length) (Eq.refl ([mul] : List ARat).length) h6 rfl) (cj (bs_addN h7) True.intro))))))) (by kernel_rfl) hL
theorem l11 (site_21 p : List ARat) (t_8 : Nat) (v : ARat) {r : PV} (h1 : t_8 < p.length) (h2 : p[t_8]? = some v) (h3 : t_8 ≤ 0) (h4 : (t_8 + 1) < 9223372036854775808) (hL : Loop1 site_21 p (t_8 + 1) r) : Loop1 site_21 p t_8 r :=
  L.go mixed tabOk (n := 135) (ns := [1, 3, 1, 1]) (tr := [.auto, .reg [], .dec true, .reg [.none, (.row t_8 (ARat.cells v))], .reg [], .dec false, .reg [(iI (((t_8 + 1) : Nat) : Int))], .keep [3, 6, 7, 8], .drop [5]]) (cj (dltN_t h1) (cj (o_at ARat.cells (Eq.refl (((t_8 : Nat) : Int) : Int)) h2) (cj (dltN_f h3) (cj (bs_addN h4) True.intro)))) (by kernel_rfl) hL
theorem l12 (site_21 p : List ARat) (t_8 : Nat) (tri : List ARat) (h1 : p.length ≤ t_8) (h2 : Contract prg 60 [(polyPV site_21)] (polyPV tri)) : Loop1 site_21 p t_8 (polyPV tri) :=
  L.done mixed tabOk (n := 120) (ns := [1, 3, 1]) (tr := [.auto, .reg [], .dec false, .frzT 3 ((site_21 : List ARat).map ARat.cells), .reg [.none, (.pv (polyPV tri))]]) (cj (dltN_f h1) (cj (o_frz sz_ARat (site_21 : List ARat) (Eq.refl (site_21 : List ARat).length)) (cj h2 True.intro))) (by kernel_rfl)
end linkworkref05_derive

namespace linkworkref05_both
@[reducible] noncomputable def fn : Func := Tryz.f181
theorem e0 (p q : List ARat) (che : Int) (h1 : Contract prg 69 [(polyPV p)] (vI che)) (h2 : che ≠ 0) : Contract prg 181 [(polyPV p), (polyPV q)] (vI che) :=
  Contract.ofL Tryz.func181 (by kernel_rfl) (L.done mixed tabOk (n := 90) (ns := [1, 1]) (tr := [.reg [], .reg [.none, (.pv (vI che))], .reg [], .dec true, .reg []]) (cj h1 (cj (dne_t h2) True.intro)) (by kernel_rfl))
theorem e1 (p q : List ARat) (che che1 : Int) (h1 : Contract prg 69 [(polyPV p)] (vI che)) (h2 : che = 0) (h3 : Contract prg 69 [(polyPV q)] (vI che1)) : Contract prg 181 [(polyPV p), (polyPV q)] (vI che1) :=
  Contract.ofL Tryz.func181 (by kernel_rfl) (L.done mixed tabOk (n := 93) (ns := [1, 1, 1]) (tr := [.reg [], .reg [.none, (.pv (vI che))], .reg [], .dec false, .reg [.none, (.pv (vI che1))]]) (cj h1 (cj (dne_f h2) (cj h3 True.intro))) (by kernel_rfl))
end linkworkref05_both

namespace linkworkref05_plus
@[reducible] noncomputable def fn : Func := Tryz.f182
noncomputable def atK1 : List Itm := focus [0, 2, 0, 2, 0, 2, 0, 0, 2, 0, 0] [.code (bodyOf fn)]
def inv1 (shift : Int) (m : Nat) (q : List ARat) (t_25 : Nat) (c : ARat) (site_19 : List ARat) : St := ⟨[(3, (eI shift)), (6, (.ptr 6 0)), (9, (.row 19 0 m 3)), (23, (.pv (polyPV q))), (24, (eI (q.length : Int))), (25, (eI (t_25 : Int)))], [(6, (.lit [(eB c.neg), (.pv (wordsPV c.num)), (.pv (wordsPV c.den))])), (19, (.pure ((site_19 : List ARat).map ARat.cells).flatten))]⟩
@[reducible] noncomputable def Loop1 (shift : Int) (m : Nat) (q : List ARat) (t_25 : Nat) (c : ARat) (site_19 : List ARat) (r : PV) : Prop := L prg fn atK1 (inv1 shift m q t_25 c site_19) r
theorem e0 (p q : List ARat) (c : ARat) (shift : Int) (m : Nat) {r : PV} (h1 : InI64 ((q.length : Int) + shift)) (h2 : (max (p.length : Int) ((q.length : Int) + shift)) = (m : Int)) (h3 : 56 * m ≤ 140737488355328) (h4 : (min p.length m) ≤ (List.replicate m (⟨false, [], []⟩ : ARat) : List ARat).length) (hL : Loop1 shift m q 0 c (p.take (min p.length m) ++ (List.replicate m (⟨false, [], []⟩ : ARat)).drop (min p.length m)) r) : Contract prg 182 [(polyPV p), (polyPV q), c.pv, (vI shift)] r :=
  Contract.ofL Tryz.func182 (by kernel_rfl) (L.go mixed tabOk (n := 93) (ns := [1, 1, 1, 1, 5, 4, 1]) (tr := [.reg [], .reg [.none, (iI (p.length : Int)), .none, (iI (q.length : Int)), .none, (iI ((q.length : Int) + shift)), (iI (max (p.length : Int) ((q.length : Int) + shift))), (.app m ((List.replicate m (⟨false, [], []⟩ : ARat) : List ARat).map ARat.cells).flatten)], .reg [.none, .none, (.app (min p.length m) (((p.take (min p.length m) ++ (List.replicate m (⟨false, [], []⟩ : ARat)).drop (min p.length m)) : List ARat).map ARat.cells).flatten)], .reg [.none, (iI (q.length : Int))], .keep [3, 6, 9, 23, 24, 25], .ord [6, 19]]) (cj (o_len ARat.cells p) (cj (o_len ARat.cells q) (cj (bs_add h1) (cj (o_maxI (p.length : Int) ((q.length : Int) + shift)) (cj (o_mk ARat.cells (⟨false, [], []⟩ : ARat) 56 m h2 h3 rfl) (cj (o_cpL sz_ARat (List.replicate m (⟨false, [], []⟩ : ARat) : List ARat) (p : List ARat) (Eq.refl (min p.length m)) h4) (cj (o_len ARat.cells q) True.intro))))))) (by kernel_rfl) hL)
theorem l10 (shift : Int) (m : Nat) (q : List ARat) (t_25 : Nat) (c : ARat) (site_19 : List ARat) (v : ARat) (k : Nat) (v1 mul add : ARat) (k1 : Nat) {r : PV} (h1 : t_25 < q.length) (h2 : q[t_25]? = some v) (h3 : InI64 ((t_25 : Int) + shift)) (h4 : ((t_25 : Int) + shift) = (k : Int)) (h5 : k < m) (h6 : site_19[k]? = some v1) (h7 : Contract prg 57 [c.pv, v.pv] mul.pv) (h8 : Contract prg 105 [v1.pv, mul.pv] add.pv) (h9 : ((t_25 : Int) + shift) = (k1 : Int)) (h10 : k1 < m) (h11 : k1 < site_19.length) (h12 : (t_25 + 1) < 9223372036854775808) (hL : Loop1 shift m q (t_25 + 1) c (site_19.set k1 add) r) : Loop1 shift m q t_25 c site_19 r :=
  L.go mixed tabOk (n := 132) (ns := [1, 3, 1, 1, 2, 2, 1, 1, 2, 2, 1]) (tr := [.auto, .reg [], .dec true, .reg [.none, (.row t_25 (ARat.cells v))], dr 15 1 [.none, .none, .none, (iI ((t_25 : Int) + shift)), .none, .none, .none, (iI ((t_25 : Int) + shift)), (.nat k), (.seg [(vB v1.neg), (wordsPV v1.num), (wordsPV v1.den)]), .none, .none, (.pv mul.pv), (.pv add.pv), (.nat k1), (.cells (.pure (((site_19.set k1 add) : List ARat).map ARat.cells).flatten))], .reg [(iI (((t_25 + 1) : Nat) : Int))], .keep [3, 6, 9, 23, 24, 25], .drop [11]]) (cj (dltN_t h1) (cj (o_at ARat.cells (Eq.refl (((t_25 : Nat) : Int) : Int)) h2) (cj (bs_add h3) (cj (bs_add h3) (cj (cj h4 h5) (cj (o_seg sz_ARat h6) (cj h7 (cj h8 (cj (cj h9 h10) (cj (o_set sz_ARat (site_19 : List ARat) add h11) (cj (bs_addN h12) True.intro))))))))))) (by kernel_rfl) hL
theorem l11 (shift : Int) (m : Nat) (q : List ARat) (t_25 : Nat) (c : ARat) (site_19 tri : List ARat) (h1 : q.length ≤ t_25) (h2 : m = site_19.length) (h3 : Contract prg 60 [(polyPV site_19)] (polyPV tri)) : Loop1 shift m q t_25 c site_19 (polyPV tri) :=
  L.done mixed tabOk (n := 126) (ns := [1, 3, 1]) (tr := [.auto, .reg [], .dec false, .frzT 9 ((site_19 : List ARat).map ARat.cells), .reg [.none, (.pv (polyPV tri))]]) (cj (dltN_f h1) (cj (o_frz sz_ARat (site_19 : List ARat) h2) (cj h3 True.intro))) (by kernel_rfl)
end linkworkref05_plus

namespace linkworkref05_times
@[reducible] noncomputable def fn : Func := Tryz.f183
noncomputable def atK1 : List Itm := focus [0, 2, 0, 2, 0, 0, 2, 0, 0] [.code (bodyOf fn)]
def inv1 (q out_5 p : List ARat) (t_10 : Nat) : St := ⟨[(1, (.pv (polyPV q))), (5, (.pv (polyPV out_5))), (8, (.pv (polyPV p))), (9, (eI (p.length : Int))), (10, (eI (t_10 : Int)))], []⟩
@[reducible] noncomputable def Loop1 (q out_5 p : List ARat) (t_10 : Nat) (r : PV) : Prop := L prg fn atK1 (inv1 q out_5 p t_10) r
theorem e0 (p q : List ARat) {r : PV}  (hL : Loop1 q [] p 0 r) : Contract prg 183 [(polyPV p), (polyPV q)] r :=
  Contract.ofL Tryz.func183 (by kernel_rfl) (L.go mixed tabOk (n := 87) (ns := [1]) (tr := [.reg [], .reg [], .reg [.none, (iI (p.length : Int))], .keep [1, 5, 8, 9, 10]]) (cj (o_len ARat.cells p) True.intro) (by kernel_rfl) hL)
theorem l10 (q out_5 p : List ARat) (t_10 : Nat) (v : ARat) (plu : List ARat) {r : PV} (h1 : t_10 < p.length) (h2 : p[t_10]? = some v) (h3 : Contract prg 182 [(polyPV out_5), (polyPV q), v.pv, (vI (t_10 : Int))] (polyPV plu)) (h4 : (t_10 + 1) < 9223372036854775808) (hL : Loop1 q plu p (t_10 + 1) r) : Loop1 q out_5 p t_10 r :=
  L.go mixed tabOk (n := 126) (ns := [1, 3, 1, 1]) (tr := [.auto, .reg [], .dec true, .reg [.none, (.row t_10 (ARat.cells v))], .reg [.none, .none, .none, .none, (.pv (polyPV plu))], .reg [(iI (((t_10 + 1) : Nat) : Int))], .keep [1, 5, 8, 9, 10], .drop [7]]) (cj (dltN_t h1) (cj (o_at ARat.cells (Eq.refl (((t_10 : Nat) : Int) : Int)) h2) (cj h3 (cj (bs_addN h4) True.intro)))) (by kernel_rfl) hL
theorem l11 (q out_5 p : List ARat) (t_10 : Nat) (h1 : p.length ≤ t_10) : Loop1 q out_5 p t_10 (polyPV out_5) :=
  L.done mixed tabOk (n := 120) (ns := [1]) (tr := [.auto, .reg [], .dec false, .reg []]) (cj (dltN_f h1) True.intro) (by kernel_rfl)
end linkworkref05_times

end Go.Proofs.YtcgbmnkgmepikaaGreat.Sym.Path


/-
  PIv: paths through functions (printed by a program of ours, wip/gen/gen2.py).
-/
namespace Go.Proofs.YtcgbmnkgmepikaaGreat.Sym.Path
open Go
set_option maxRecDepth 20000
set_option linter.unusedVariables false

namespace linkworkbase_Num
@[reducible] noncomputable def fn : Func := Tryz.f14
theorem e0   : Contract prg 14 [.nilI] (vI 0) :=
  Contract.ofL Tryz.func14 (by kernel_rfl) (L.done mixed tabOk (n := 84) (ns := []) (tr := [.reg [], .reg [], .auto, .reg []]) True.intro (by kernel_rfl))
theorem e1 (e : Int)  : Contract prg 14 [(.iface 57 (vI e))] (vI e) :=
  Contract.ofL Tryz.func14 (by kernel_rfl) (L.done mixed tabOk (n := 108) (ns := []) (tr := [.reg [], .reg [], .auto, .reg [], .reg [], .auto, .reg []]) True.intro (by kernel_rfl))
end linkworkbase_Num

namespace linkworkbase_Rat
@[reducible] noncomputable def fn : Func := Tryz.f17
theorem e0 (a b : ARat) (wor wor1 : Bool) (h1 : a.neg = b.neg) (h2 : Contract prg 62 [(wordsPV a.num), (wordsPV b.num)] (vB wor)) (h3 : wor = true) (h4 : Contract prg 62 [(wordsPV a.den), (wordsPV b.den)] (vB wor1)) : Contract prg 17 [a.pv, b.pv] (vB wor1) :=
  Contract.ofL Tryz.func17 (by kernel_rfl) (L.done mixed tabOk (n := 72) (ns := [1, 1, 1, 1, 1, 1, 1, 1, 1, 1, 1, 1, 1, 1]) (tr := [.reg [], .reg [.none, .none, .none, .none, .none, .none, .none, .none, .none, .none, (.pv (vB wor)), (.dec true), .none, .none, .none, .none, .none, (.pv (vB wor1)), (.dec true)]]) (cj (beq_t h1) (cj (beq_t h1) (cj (beq_t h1) (cj (beq_t h1) (cj (beq_t h1) (cj h2 (cj (beq_t h1) (cj h3 (cj h3 (cj h3 (cj h3 (cj h3 (cj h4 (cj h3 True.intro)))))))))))))) (by kernel_rfl))
theorem e1 (a b : ARat) (wor : Bool) (h1 : a.neg = b.neg) (h2 : Contract prg 62 [(wordsPV a.num), (wordsPV b.num)] (vB wor)) (h3 : wor = false) : Contract prg 17 [a.pv, b.pv] (vB false) :=
  Contract.ofL Tryz.func17 (by kernel_rfl) (L.done mixed tabOk (n := 72) (ns := [1, 1, 1, 1, 1, 1, 1, 1, 1, 1, 1, 1, 1]) (tr := [.reg [], .reg [.none, .none, .none, .none, .none, .none, .none, .none, .none, .none, (.pv (vB wor)), (.dec true), .none, .skip, .skip, .skip, .skip, .skip, (.dec false)]]) (cj (beq_t h1) (cj (beq_t h1) (cj (beq_t h1) (cj (beq_t h1) (cj (beq_t h1) (cj h2 (cj (beq_t h1) (cj h3 (cj h3 (cj h3 (cj h3 (cj h3 (cj h3 True.intro))))))))))))) (by kernel_rfl))
theorem e2 (a b : ARat) (h1 : a.neg ≠ b.neg) : Contract prg 17 [a.pv, b.pv] (vB false) :=
  Contract.ofL Tryz.func17 (by kernel_rfl) (L.done mixed tabOk (n := 72) (ns := [1, 1, 1, 1, 1, 1, 1, 1, 1, 1, 1]) (tr := [.reg [], .reg [.none, .none, .none, .none, .none, .none, .skip, .skip, .skip, .skip, .skip, (.dec false), .none, .skip, .skip, .skip, .skip, .skip]]) (cj (beq_f h1) (cj (beq_f h1) (cj (beq_f h1) (cj (beq_f h1) (cj (beq_f h1) (cj (beq_f h1) (cj (Eq.refl false) (cj (Eq.refl false) (cj (Eq.refl false) (cj (Eq.refl false) (cj (Eq.refl false) True.intro))))))))))) (by kernel_rfl))
end linkworkbase_Rat

namespace linkworkbase_Is
@[reducible] noncomputable def fn : Func := Tryz.f29
theorem e0 (e : Option Int) (code num : Int) (h1 : Contract prg 14 [(errPV e)] (vI num)) : Contract prg 29 [(errPV e), (vI code)] (vB (num == code)) :=
  Contract.ofL Tryz.func29 (by kernel_rfl) (L.done mixed tabOk (n := 72) (ns := [1]) (tr := [.reg [], .reg [.none, (.pv (vI num))]]) (cj h1 True.intro) (by kernel_rfl))
end linkworkbase_Is

namespace interval_Contains
@[reducible] noncomputable def fn : Func := Tryz.f36
theorem e0 (a : ARange) (x : ARat) (cle : ARange) (cmp cmp1 : Int) (h1 : Contract prg 89 [a.pv] cle.pv) (h2 : Contract prg 38 [cle.lo.pv, x.pv] (vI cmp)) (h3 : cmp ≤ 0) (h4 : Contract prg 38 [x.pv, cle.hi.pv] (vI cmp1)) : Contract prg 36 [a.pv, x.pv] (vB (decide (cmp1 ≤ 0))) :=
  Contract.ofL Tryz.func36 (by kernel_rfl) (L.done mixed tabOk (n := 78) (ns := [1, 1, 1, 1, 1, 1, 1, 1, 1]) (tr := [.reg [], .reg [.none, (.pv cle.pv)], .reg [.none, .none, .none, (.pv (vI cmp)), .none, .none, .none, .none, .none, (.pv (vI cmp1)), .none, (.dec true)]]) (cj h1 (cj h2 (cj (dle_t h3) (cj (dle_t h3) (cj (dle_t h3) (cj (dle_t h3) (cj h4 (cj (dle_t h3) (cj (dle_t h3) True.intro))))))))) (by kernel_rfl))
theorem e1 (a : ARange) (x : ARat) (cle : ARange) (cmp : Int) (h1 : Contract prg 89 [a.pv] cle.pv) (h2 : Contract prg 38 [cle.lo.pv, x.pv] (vI cmp)) (h3 : 0 < cmp) : Contract prg 36 [a.pv, x.pv] (vB false) :=
  Contract.ofL Tryz.func36 (by kernel_rfl) (L.done mixed tabOk (n := 78) (ns := [1, 1, 1, 1, 1, 1, 1, 1]) (tr := [.reg [], .reg [.none, (.pv cle.pv)], .reg [.none, .none, .none, (.pv (vI cmp)), .none, .none, .skip, .skip, .skip, .skip, .skip, (.dec false)]]) (cj h1 (cj h2 (cj (dle_f h3) (cj (dle_f h3) (cj (dle_f h3) (cj (dle_f h3) (cj (dle_f h3) (cj (dle_f h3) True.intro)))))))) (by kernel_rfl))
end interval_Contains

namespace linkworkbase_Rats
@[reducible] noncomputable def fn : Func := Tryz.f49
noncomputable def atK1 : List Itm := focus [0, 2, 0, 0, 2, 1, 2, 0, 0, 2, 0, 0] [.code (bodyOf fn)]
def inv1 (a b : List ARat) (i_5 : Nat) : St := ⟨[(0, (.pv (polyPV a))), (1, (.pv (polyPV b))), (5, (eI (i_5 : Int)))], []⟩
@[reducible] noncomputable def Loop1 (a b : List ARat) (i_5 : Nat) (r : PV) : Prop := L prg fn atK1 (inv1 a b i_5) r
theorem e0 (a b : List ARat) (h1 : a.length ≠ b.length) : Contract prg 49 [(polyPV a), (polyPV b)] (vB false) :=
  Contract.ofL Tryz.func49 (by kernel_rfl) (L.done mixed tabOk (n := 84) (ns := [1, 1, 1]) (tr := [.reg [], .reg [.none, (iI (a.length : Int)), .none, (iI (b.length : Int))], .dec true, .reg []]) (cj (o_len ARat.cells a) (cj (o_len ARat.cells b) (cj (dneN_t h1) True.intro))) (by kernel_rfl))
theorem e1 (a b : List ARat) {r : PV} (h1 : a.length = b.length) (hL : Loop1 a b 0 r) : Contract prg 49 [(polyPV a), (polyPV b)] r :=
  Contract.ofL Tryz.func49 (by kernel_rfl) (L.go mixed tabOk (n := 96) (ns := [1, 1, 1]) (tr := [.reg [], .reg [.none, (iI (a.length : Int)), .none, (iI (b.length : Int))], .dec false, .reg [], .keep [0, 1, 5]]) (cj (o_len ARat.cells a) (cj (o_len ARat.cells b) (cj (dneN_f h1) True.intro))) (by kernel_rfl) hL)
theorem l10 (a b : List ARat) (i_5 : Nat) (v v1 : ARat) (rat : Bool) (h1 : i_5 < a.length) (h2 : a[i_5]? = some v) (h3 : b[i_5]? = some v1) (h4 : Contract prg 17 [v.pv, v1.pv] (vB rat)) (h5 : rat = false) : Loop1 a b i_5 (vB false) :=
  L.done mixed tabOk (n := 135) (ns := [1, 1, 3, 3, 1, 1]) (tr := [.auto, .reg [.none, .none, (iI (a.length : Int))], .dec true, dr 10 0 [.none, .none, (.row i_5 (ARat.cells v)), .none, .none, .none, (.row i_5 (ARat.cells v1)), .none, (.pv (vB rat))], .dec true, .reg []]) (cj (o_len ARat.cells a) (cj (dltN_t h1) (cj (o_at ARat.cells (Eq.refl (((i_5 : Nat) : Int) : Int)) h2) (cj (o_at ARat.cells (Eq.refl (((i_5 : Nat) : Int) : Int)) h3) (cj h4 (cj (bnot_t h5) True.intro)))))) (by kernel_rfl)
theorem l11 (a b : List ARat) (i_5 : Nat) (v v1 : ARat) (rat : Bool) {r : PV} (h1 : i_5 < a.length) (h2 : a[i_5]? = some v) (h3 : b[i_5]? = some v1) (h4 : Contract prg 17 [v.pv, v1.pv] (vB rat)) (h5 : rat = true) (h6 : (i_5 + 1) < 9223372036854775808) (hL : Loop1 a b (i_5 + 1) r) : Loop1 a b i_5 r :=
  L.go mixed tabOk (n := 138) (ns := [1, 1, 3, 3, 1, 1, 1]) (tr := [.auto, .reg [.none, .none, (iI (a.length : Int))], .dec true, dr 10 0 [.none, .none, (.row i_5 (ARat.cells v)), .none, .none, .none, (.row i_5 (ARat.cells v1)), .none, (.pv (vB rat))], .dec false, .reg [.none, (iI (((i_5 + 1) : Nat) : Int))], .keep [0, 1, 5]]) (cj (o_len ARat.cells a) (cj (dltN_t h1) (cj (o_at ARat.cells (Eq.refl (((i_5 : Nat) : Int) : Int)) h2) (cj (o_at ARat.cells (Eq.refl (((i_5 : Nat) : Int) : Int)) h3) (cj h4 (cj (bnot_f h5) (cj (bs_addN h6) True.intro))))))) (by kernel_rfl) hL
theorem l12 (a b : List ARat) (i_5 : Nat) (h1 : a.length ≤ i_5) : Loop1 a b i_5 (vB true) :=
  L.done mixed tabOk (n := 129) (ns := [1, 1]) (tr := [.auto, .reg [.none, .none, (iI (a.length : Int))], .dec false, .reg []]) (cj (o_len ARat.cells a) (cj (dltN_f h1) True.intro)) (by kernel_rfl)
end linkworkbase_Rats

namespace linkworkbase_Words
@[reducible] noncomputable def fn : Func := Tryz.f62
noncomputable def atK1 : List Itm := focus [0, 2, 0, 0, 2, 1, 2, 0, 0, 2, 0, 0] [.code (bodyOf fn)]
def inv1 (a b : List UInt32) (i_5 : Nat) : St := ⟨[(0, (.pv (wordsPV a))), (1, (.pv (wordsPV b))), (5, (eI (i_5 : Int)))], []⟩
@[reducible] noncomputable def Loop1 (a b : List UInt32) (i_5 : Nat) (r : PV) : Prop := L prg fn atK1 (inv1 a b i_5) r
theorem e0 (a b : List UInt32) (h1 : a.length ≠ b.length) : Contract prg 62 [(wordsPV a), (wordsPV b)] (vB false) :=
  Contract.ofL Tryz.func62 (by kernel_rfl) (L.done mixed tabOk (n := 84) (ns := [1, 1, 1]) (tr := [.reg [], .reg [.none, (iI (a.length : Int)), .none, (iI (b.length : Int))], .dec true, .reg []]) (cj (o_len wordPV a) (cj (o_len wordPV b) (cj (dneN_t h1) True.intro))) (by kernel_rfl))
theorem e1 (a b : List UInt32) {r : PV} (h1 : a.length = b.length) (hL : Loop1 a b 0 r) : Contract prg 62 [(wordsPV a), (wordsPV b)] r :=
  Contract.ofL Tryz.func62 (by kernel_rfl) (L.go mixed tabOk (n := 96) (ns := [1, 1, 1]) (tr := [.reg [], .reg [.none, (iI (a.length : Int)), .none, (iI (b.length : Int))], .dec false, .reg [], .keep [0, 1, 5]]) (cj (o_len wordPV a) (cj (o_len wordPV b) (cj (dneN_f h1) True.intro))) (by kernel_rfl) hL)
theorem l10 (a b : List UInt32) (i_5 : Nat) (v v1 : UInt32) (h1 : i_5 < a.length) (h2 : a[i_5]? = some v) (h3 : b[i_5]? = some v1) (h4 : v.toNat ≠ v1.toNat) : Loop1 a b i_5 (vB false) :=
  L.done mixed tabOk (n := 135) (ns := [1, 1, 3, 3, 1]) (tr := [.auto, .reg [.none, .none, (iI (a.length : Int))], .dec true, dr 9 0 [.none, .none, (.row i_5 (wordPV v)), .none, .none, .none, (.row i_5 (wordPV v1))], .dec true, .reg []]) (cj (o_len wordPV a) (cj (dltN_t h1) (cj (o_at wordPV (Eq.refl (((i_5 : Nat) : Int) : Int)) h2) (cj (o_at wordPV (Eq.refl (((i_5 : Nat) : Int) : Int)) h3) (cj (dneN_t h4) True.intro))))) (by kernel_rfl)
theorem l11 (a b : List UInt32) (i_5 : Nat) (v v1 : UInt32) {r : PV} (h1 : i_5 < a.length) (h2 : a[i_5]? = some v) (h3 : b[i_5]? = some v1) (h4 : v.toNat = v1.toNat) (h5 : (i_5 + 1) < 9223372036854775808) (hL : Loop1 a b (i_5 + 1) r) : Loop1 a b i_5 r :=
  L.go mixed tabOk (n := 138) (ns := [1, 1, 3, 3, 1, 1]) (tr := [.auto, .reg [.none, .none, (iI (a.length : Int))], .dec true, dr 9 0 [.none, .none, (.row i_5 (wordPV v)), .none, .none, .none, (.row i_5 (wordPV v1))], .dec false, .reg [.none, (iI (((i_5 + 1) : Nat) : Int))], .keep [0, 1, 5]]) (cj (o_len wordPV a) (cj (dltN_t h1) (cj (o_at wordPV (Eq.refl (((i_5 : Nat) : Int) : Int)) h2) (cj (o_at wordPV (Eq.refl (((i_5 : Nat) : Int) : Int)) h3) (cj (dneN_f h4) (cj (bs_addN h5) True.intro)))))) (by kernel_rfl) hL
theorem l12 (a b : List UInt32) (i_5 : Nat) (h1 : a.length ≤ i_5) : Loop1 a b i_5 (vB true) :=
  L.done mixed tabOk (n := 129) (ns := [1, 1]) (tr := [.auto, .reg [.none, .none, (iI (a.length : Int))], .dec false, .reg []]) (cj (o_len wordPV a) (cj (dltN_f h1) True.intro)) (by kernel_rfl)
end linkworkbase_Words

namespace interval_Hull
@[reducible] noncomputable def fn : Func := Tryz.f86
theorem e0 (a b cle cle1 : ARange) (minV maxV : ARat) (h1 : Contract prg 89 [a.pv] cle.pv) (h2 : Contract prg 89 [b.pv] cle1.pv) (h3 : Contract prg 135 [cle.lo.pv, cle1.lo.pv] minV.pv) (h4 : Contract prg 136 [cle.hi.pv, cle1.hi.pv] maxV.pv) : Contract prg 86 [a.pv, b.pv] ((⟨minV, maxV⟩ : ARange).pv) :=
  Contract.ofL Tryz.func86 (by kernel_rfl) (L.done mixed tabOk (n := 78) (ns := [1, 1, 1, 1]) (tr := [.reg [], dr 4 2 [.none, (.pv cle.pv), .none, (.pv cle1.pv)], dr 11 1 [.none, .none, .none, .none, (.pv minV.pv), .none, .none, .none, .none, (.pv maxV.pv)]]) (cj h1 (cj h2 (cj h3 (cj h4 True.intro)))) (by kernel_rfl))
end interval_Hull

namespace interval_clean
@[reducible] noncomputable def fn : Func := Tryz.f89
theorem e0 (a : ARange) (val : Bool) (h1 : Contract prg 137 [a.pv] (vB val)) (h2 : val = false) : Contract prg 89 [a.pv] ((⟨(⟨false, [], []⟩ : ARat), (⟨false, [], []⟩ : ARat)⟩ : ARange).pv) :=
  Contract.ofL Tryz.func89 (by kernel_rfl) (L.done mixed tabOk (n := 84) (ns := [1, 1]) (tr := [.reg [], .reg [.none, (.pv (vB val))], .dec true, .reg []]) (cj h1 (cj (bnot_t h2) True.intro)) (by kernel_rfl))
theorem e1 (a : ARange) (val : Bool) (add add1 : ARat) (h1 : Contract prg 137 [a.pv] (vB val)) (h2 : val = true) (h3 : Contract prg 32 [a.lo.pv, (⟨false, [], []⟩ : ARat).pv] add.pv) (h4 : Contract prg 32 [a.hi.pv, (⟨false, [], []⟩ : ARat).pv] add1.pv) : Contract prg 89 [a.pv] ((⟨add, add1⟩ : ARange).pv) :=
  Contract.ofL Tryz.func89 (by kernel_rfl) (L.done mixed tabOk (n := 87) (ns := [1, 1, 1, 1]) (tr := [.reg [], .reg [.none, (.pv (vB val))], .dec false, dr 9 1 [.none, .none, .none, (.pv add.pv), .none, .none, .none, (.pv add1.pv)]]) (cj h1 (cj (bnot_f h2) (cj h3 (cj h4 True.intro)))) (by kernel_rfl))
end interval_clean

namespace linkworkref03_Hull
@[reducible] noncomputable def fn : Func := Tryz.f98
theorem e0 (a b giv giv1 spa : ARange) (h1 : Contract prg 142 [a.pv] giv.pv) (h2 : Contract prg 142 [b.pv] giv1.pv) (h3 : Contract prg 143 [(polyPV [giv.lo, giv.hi, giv1.lo, giv1.hi])] spa.pv) : Contract prg 98 [a.pv, b.pv] spa.pv :=
  Contract.ofL Tryz.func98 (by kernel_rfl) (L.done mixed tabOk (n := 78) (ns := [1, 1, 3, 1]) (tr := [.reg [], dr 4 2 [.none, (.pv giv.pv), .none, (.pv giv1.pv)], .reg [.none, .none, .none, .none, .none, .none, .none, .none, (.slc 0 0 (([giv.lo, giv.hi, giv1.lo, giv1.hi] : List ARat).map ARat.cells)), (.pv spa.pv)]]) (cj h1 (cj h2 (cj (o_bs sz_ARat ([giv.lo, giv.hi, giv1.lo, giv1.hi] : List ARat)) (cj h3 True.intro)))) (by kernel_rfl))
end linkworkref03_Hull

namespace interval_Point
@[reducible] noncomputable def fn : Func := Tryz.f132
theorem e0 (x add add1 : ARat) (h1 : Contract prg 32 [x.pv, (⟨false, [], []⟩ : ARat).pv] add.pv) (h2 : Contract prg 32 [x.pv, (⟨false, [], []⟩ : ARat).pv] add1.pv) : Contract prg 132 [x.pv] ((⟨add, add1⟩ : ARange).pv) :=
  Contract.ofL Tryz.func132 (by kernel_rfl) (L.done mixed tabOk (n := 72) (ns := [1, 1]) (tr := [.reg [], dr 7 1 [.none, .none, (.pv add.pv), .none, .none, (.pv add1.pv)]]) (cj h1 (cj h2 True.intro)) (by kernel_rfl))
end interval_Point

namespace interval_Add
@[reducible] noncomputable def fn : Func := Tryz.f133
theorem e0 (a b cle cle1 : ARange) (add add1 : ARat) (h1 : Contract prg 89 [a.pv] cle.pv) (h2 : Contract prg 89 [b.pv] cle1.pv) (h3 : Contract prg 32 [cle.lo.pv, cle1.lo.pv] add.pv) (h4 : Contract prg 32 [cle.hi.pv, cle1.hi.pv] add1.pv) : Contract prg 133 [a.pv, b.pv] ((⟨add, add1⟩ : ARange).pv) :=
  Contract.ofL Tryz.func133 (by kernel_rfl) (L.done mixed tabOk (n := 78) (ns := [1, 1, 1, 1]) (tr := [.reg [], dr 4 2 [.none, (.pv cle.pv), .none, (.pv cle1.pv)], dr 11 1 [.none, .none, .none, .none, (.pv add.pv), .none, .none, .none, .none, (.pv add1.pv)]]) (cj h1 (cj h2 (cj h3 (cj h4 True.intro)))) (by kernel_rfl))
end interval_Add

namespace interval_Mul
@[reducible] noncomputable def fn : Func := Tryz.f134
noncomputable def atK1 : List Itm := focus [0, 2, 0, 2, 0, 2, 0, 2, 0, 0, 2, 0, 0] [.code (bodyOf fn)]
def inv1 (t_40 : Nat) (site_6 : ARange) (mul1 mul2 mul3 : ARat) : St := ⟨[(4, (.ptr 4 0)), (6, (.ptr 6 0)), (38, (.row 38 0 3 3)), (39, (eI 3)), (40, (eI (t_40 : Int)))], [(4, (.lit [(eB false), (.pv (.list [])), (.pv (.list [])), (eB false), (.pv (.list [])), (.pv (.list []))])), (6, (.lit [(eB site_6.lo.neg), (.pv (wordsPV site_6.lo.num)), (.pv (wordsPV site_6.lo.den)), (eB site_6.hi.neg), (.pv (wordsPV site_6.hi.num)), (.pv (wordsPV site_6.hi.den))])), (38, (.pure (([mul1, mul2, mul3] : List ARat).map ARat.cells).flatten))]⟩
@[reducible] noncomputable def Loop1 (t_40 : Nat) (site_6 : ARange) (mul1 mul2 mul3 : ARat) (r : PV) : Prop := L prg fn atK1 (inv1 t_40 site_6 mul1 mul2 mul3) r
theorem e0 (a b cle cle1 : ARange) (mul add mul1 mul2 mul3 : ARat) {r : PV} (h1 : Contract prg 89 [a.pv] cle.pv) (h2 : Contract prg 89 [b.pv] cle1.pv) (h3 : Contract prg 54 [cle.lo.pv, cle1.lo.pv] mul.pv) (h4 : Contract prg 32 [mul.pv, (⟨false, [], []⟩ : ARat).pv] add.pv) (h5 : Contract prg 54 [cle.lo.pv, cle1.hi.pv] mul1.pv) (h6 : Contract prg 54 [cle.hi.pv, cle1.lo.pv] mul2.pv) (h7 : Contract prg 54 [cle.hi.pv, cle1.hi.pv] mul3.pv) (hL : Loop1 0 (⟨mul, add⟩ : ARange) mul1 mul2 mul3 r) : Contract prg 134 [a.pv, b.pv] r :=
  Contract.ofL Tryz.func134 (by kernel_rfl) (L.go mixed tabOk (n := 99) (ns := [1, 1, 1, 1, 1, 1, 1]) (tr := [.reg [], dr 4 2 [.none, (.pv cle.pv), .none, (.pv cle1.pv)], .reg [.none, .none, .none, .none, (.pv mul.pv)], dr 6 1 [.none, .none, .none, (.pv add.pv)], dr 18 0 [.none, .none, .none, .none, (.pv mul1.pv), .none, .none, .none, .none, (.pv mul2.pv), .none, .none, .none, .none, (.pv mul3.pv)], .keep [4, 6, 38, 39, 40], .drop [5, 3, 2], .ord [4, 6, 38]]) (cj h1 (cj h2 (cj h3 (cj h4 (cj h5 (cj h6 (cj h7 True.intro))))))) (by kernel_rfl) hL)
theorem l10 (t_40 : Nat) (site_6 : ARange) (mul1 mul2 mul3 v minV maxV : ARat) {r : PV} (h1 : t_40 < 3) (h2 : [mul1, mul2, mul3][t_40]? = some v) (h3 : Contract prg 135 [site_6.lo.pv, v.pv] minV.pv) (h4 : Contract prg 136 [site_6.hi.pv, v.pv] maxV.pv) (h5 : (t_40 + 1) < 9223372036854775808) (hL : Loop1 (t_40 + 1) (⟨minV, maxV⟩ : ARange) mul1 mul2 mul3 r) : Loop1 t_40 site_6 mul1 mul2 mul3 r :=
  L.go mixed tabOk (n := 138) (ns := [1, 2, 2, 1, 1, 1]) (tr := [.auto, .reg [], .dec true, .reg [(.nat t_40), (.seg [(vB v.neg), (wordsPV v.num), (wordsPV v.den)])], dr 9 1 [.none, .none, .none, (.pv minV.pv), .none, .none, .none, (.pv maxV.pv)], .reg [(iI (((t_40 + 1) : Nat) : Int))], .keep [4, 6, 38, 39, 40], .drop [8]]) (cj (dltN_t h1) (cj (cj (Eq.refl (((t_40 : Nat) : Int) : Int)) h1) (cj (o_seg sz_ARat h2) (cj h3 (cj h4 (cj (bs_addN h5) True.intro)))))) (by kernel_rfl) hL
theorem l11 (t_40 : Nat) (site_6 : ARange) (mul1 mul2 mul3 : ARat) (h1 : 3 ≤ t_40) : Loop1 t_40 site_6 mul1 mul2 mul3 site_6.pv :=
  L.done mixed tabOk (n := 132) (ns := [1]) (tr := [.auto, .reg [], .dec false, .reg []]) (cj (dltN_f h1) True.intro) (by kernel_rfl)
end interval_Mul

namespace interval_Valid
@[reducible] noncomputable def fn : Func := Tryz.f137
theorem e0 (a : ARange) (val val1 : Bool) (cmp : Int) (h1 : Contract prg 50 [a.lo.pv] (vB val)) (h2 : val = true) (h3 : Contract prg 50 [a.hi.pv] (vB val1)) (h4 : val1 = true) (h5 : Contract prg 38 [a.lo.pv, a.hi.pv] (vI cmp)) : Contract prg 137 [a.pv] (vB (decide (cmp ≤ 0))) :=
  Contract.ofL Tryz.func137 (by kernel_rfl) (L.done mixed tabOk (n := 72) (ns := [1, 1, 1, 1, 1, 1, 1, 1, 1, 1, 1, 1, 1, 1]) (tr := [.reg [], .reg [.none, .none, (.pv (vB val)), .none, .none, .none, (.pv (vB val1)), (.dec true), .none, .none, .none, .none, .none, (.pv (vI cmp)), .none, (.dec true)]]) (cj h1 (cj h2 (cj h2 (cj h2 (cj h3 (cj h2 (cj h4 (cj h4 (cj h4 (cj h4 (cj h4 (cj h5 (cj h4 (cj h4 True.intro)))))))))))))) (by kernel_rfl))
theorem e1 (a : ARange) (val val1 : Bool) (h1 : Contract prg 50 [a.lo.pv] (vB val)) (h2 : val = true) (h3 : Contract prg 50 [a.hi.pv] (vB val1)) (h4 : val1 = false) : Contract prg 137 [a.pv] (vB false) :=
  Contract.ofL Tryz.func137 (by kernel_rfl) (L.done mixed tabOk (n := 72) (ns := [1, 1, 1, 1, 1, 1, 1, 1, 1, 1, 1, 1, 1]) (tr := [.reg [], .reg [.none, .none, (.pv (vB val)), .none, .none, .none, (.pv (vB val1)), (.dec true), .none, .skip, .skip, .skip, .skip, .skip, .skip, (.dec false)]]) (cj h1 (cj h2 (cj h2 (cj h2 (cj h3 (cj h2 (cj h4 (cj h4 (cj h4 (cj h4 (cj h4 (cj h4 (cj h4 True.intro))))))))))))) (by kernel_rfl))
theorem e2 (a : ARange) (val : Bool) (h1 : Contract prg 50 [a.lo.pv] (vB val)) (h2 : val = false) : Contract prg 137 [a.pv] (vB false) :=
  Contract.ofL Tryz.func137 (by kernel_rfl) (L.done mixed tabOk (n := 72) (ns := [1, 1, 1, 1, 1, 1, 1, 1, 1, 1, 1]) (tr := [.reg [], .reg [.none, .none, (.pv (vB val)), .none, .skip, .skip, .skip, (.dec false), .none, .skip, .skip, .skip, .skip, .skip, .skip]]) (cj h1 (cj h2 (cj h2 (cj h2 (cj h2 (cj (Eq.refl false) (cj (Eq.refl false) (cj (Eq.refl false) (cj (Eq.refl false) (cj (Eq.refl false) (cj (Eq.refl false) True.intro))))))))))) (by kernel_rfl))
end interval_Valid

namespace linkworkref03_Add
@[reducible] noncomputable def fn : Func := Tryz.f139
theorem e0 (a b giv giv1 : ARange) (add add1 : ARat) (spa : ARange) (h1 : Contract prg 142 [a.pv] giv.pv) (h2 : Contract prg 142 [b.pv] giv1.pv) (h3 : Contract prg 105 [giv.lo.pv, giv1.lo.pv] add.pv) (h4 : Contract prg 105 [giv.hi.pv, giv1.hi.pv] add1.pv) (h5 : Contract prg 143 [(polyPV [add, add1])] spa.pv) : Contract prg 139 [a.pv, b.pv] spa.pv :=
  Contract.ofL Tryz.func139 (by kernel_rfl) (L.done mixed tabOk (n := 78) (ns := [1, 1, 1, 1, 3, 1]) (tr := [.reg [], dr 4 2 [.none, (.pv giv.pv), .none, (.pv giv1.pv)], dr 12 1 [.none, .none, .none, .none, (.pv add.pv), .none, .none, .none, .none, (.pv add1.pv), (.slc 0 0 (([add, add1] : List ARat).map ARat.cells)), (.pv spa.pv)]]) (cj h1 (cj h2 (cj h3 (cj h4 (cj (o_bs sz_ARat ([add, add1] : List ARat)) (cj h5 True.intro)))))) (by kernel_rfl))
end linkworkref03_Add

namespace linkworkref03_Mul
@[reducible] noncomputable def fn : Func := Tryz.f140
theorem e0 (a b giv giv1 : ARange) (mul mul1 mul2 mul3 : ARat) (spa : ARange) (h1 : Contract prg 142 [a.pv] giv.pv) (h2 : Contract prg 142 [b.pv] giv1.pv) (h3 : Contract prg 57 [giv.lo.pv, giv1.lo.pv] mul.pv) (h4 : Contract prg 57 [giv.lo.pv, giv1.hi.pv] mul1.pv) (h5 : Contract prg 57 [giv.hi.pv, giv1.lo.pv] mul2.pv) (h6 : Contract prg 57 [giv.hi.pv, giv1.hi.pv] mul3.pv) (h7 : Contract prg 143 [(polyPV [mul, mul1, mul2, mul3])] spa.pv) : Contract prg 140 [a.pv, b.pv] spa.pv :=
  Contract.ofL Tryz.func140 (by kernel_rfl) (L.done mixed tabOk (n := 78) (ns := [1, 1, 1, 1, 1, 1, 3, 1]) (tr := [.reg [], dr 4 2 [.none, (.pv giv.pv), .none, (.pv giv1.pv)], dr 22 1 [.none, .none, .none, .none, (.pv mul.pv), .none, .none, .none, .none, (.pv mul1.pv), .none, .none, .none, .none, (.pv mul2.pv), .none, .none, .none, .none, (.pv mul3.pv), (.slc 0 0 (([mul, mul1, mul2, mul3] : List ARat).map ARat.cells)), (.pv spa.pv)]]) (cj h1 (cj h2 (cj h3 (cj h4 (cj h5 (cj h6 (cj (o_bs sz_ARat ([mul, mul1, mul2, mul3] : List ARat)) (cj h7 True.intro)))))))) (by kernel_rfl))
end linkworkref03_Mul

namespace linkworkref03_Point
@[reducible] noncomputable def fn : Func := Tryz.f141
theorem e0 (x : ARat) (spa : ARange) (h1 : Contract prg 143 [(polyPV [x])] spa.pv) : Contract prg 141 [x.pv] spa.pv :=
  Contract.ofL Tryz.func141 (by kernel_rfl) (L.done mixed tabOk (n := 72) (ns := [3, 1]) (tr := [.reg [], .reg [.none, (.slc 0 0 (([x] : List ARat).map ARat.cells)), (.pv spa.pv)]]) (cj (o_bs sz_ARat ([x] : List ARat)) (cj h1 True.intro)) (by kernel_rfl))
end linkworkref03_Point

namespace linkworkref03_given
@[reducible] noncomputable def fn : Func := Tryz.f142
theorem e0 (a : ARange) (val : Bool) (h1 : Contract prg 167 [a.pv] (vB val)) (h2 : val = false) : Contract prg 142 [a.pv] ((⟨(⟨false, [], []⟩ : ARat), (⟨false, [], []⟩ : ARat)⟩ : ARange).pv) :=
  Contract.ofL Tryz.func142 (by kernel_rfl) (L.done mixed tabOk (n := 84) (ns := [1, 1]) (tr := [.reg [], .reg [.none, (.pv (vB val))], .dec true, .reg []]) (cj h1 (cj (bnot_t h2) True.intro)) (by kernel_rfl))
theorem e1 (a : ARange) (val : Bool) (h1 : Contract prg 167 [a.pv] (vB val)) (h2 : val = true) : Contract prg 142 [a.pv] a.pv :=
  Contract.ofL Tryz.func142 (by kernel_rfl) (L.done mixed tabOk (n := 87) (ns := [1, 1]) (tr := [.reg [], .reg [.none, (.pv (vB val))], .dec false, .reg []]) (cj h1 (cj (bnot_f h2) True.intro)) (by kernel_rfl))
end linkworkref03_given

namespace linkworkref03_span
@[reducible] noncomputable def fn : Func := Tryz.f143
noncomputable def atK1 : List Itm := focus [0, 2, 0, 2, 0, 0, 2, 0, 0] [.code (bodyOf fn)]
def inv1 (l : List ARat) (t_19 : Nat) (site_3 : ARange) : St := ⟨[(2, (.ptr 2 0)), (3, (.ptr 3 0)), (17, (.pv (polyPV l))), (18, (eI (l.length : Int))), (19, (eI (t_19 : Int)))], [(2, (.lit [(eB false), (.pv (.list [])), (.pv (.list [])), (eB false), (.pv (.list [])), (.pv (.list []))])), (3, (.lit [(eB site_3.lo.neg), (.pv (wordsPV site_3.lo.num)), (.pv (wordsPV site_3.lo.den)), (eB site_3.hi.neg), (.pv (wordsPV site_3.hi.num)), (.pv (wordsPV site_3.hi.den))]))]⟩
@[reducible] noncomputable def Loop1 (l : List ARat) (t_19 : Nat) (site_3 : ARange) (r : PV) : Prop := L prg fn atK1 (inv1 l t_19 site_3) r
theorem e0 (l : List ARat) (v add add1 : ARat) {r : PV} (h1 : l[0]? = some v) (h2 : Contract prg 105 [v.pv, (⟨false, [], []⟩ : ARat).pv] add.pv) (h3 : Contract prg 105 [v.pv, (⟨false, [], []⟩ : ARat).pv] add1.pv) (hL : Loop1 l 0 (⟨add, add1⟩ : ARange) r) : Contract prg 143 [(polyPV l)] r :=
  Contract.ofL Tryz.func143 (by kernel_rfl) (L.go mixed tabOk (n := 87) (ns := [3, 1, 3, 1, 1]) (tr := [.reg [], dr 12 1 [.none, (.row 0 (ARat.cells v)), .none, .none, (.pv add.pv), .none, (.row 0 (ARat.cells v)), .none, .none, (.pv add1.pv)], .reg [.none, (iI (l.length : Int))], .keep [2, 3, 17, 18, 19], .ord [2, 3]]) (cj (o_at ARat.cells (Eq.refl (0 : Int)) h1) (cj h2 (cj (o_at ARat.cells (Eq.refl (0 : Int)) h1) (cj h3 (cj (o_len ARat.cells l) True.intro))))) (by kernel_rfl) hL)
theorem l10 (l : List ARat) (t_19 : Nat) (site_3 : ARange) (v minV maxV : ARat) {r : PV} (h1 : t_19 < l.length) (h2 : l[t_19]? = some v) (h3 : Contract prg 168 [site_3.lo.pv, v.pv] minV.pv) (h4 : Contract prg 169 [site_3.hi.pv, v.pv] maxV.pv) (h5 : (t_19 + 1) < 9223372036854775808) (hL : Loop1 l (t_19 + 1) (⟨minV, maxV⟩ : ARange) r) : Loop1 l t_19 site_3 r :=
  L.go mixed tabOk (n := 126) (ns := [1, 3, 1, 1, 1]) (tr := [.auto, .reg [], .dec true, .reg [(.row t_19 (ARat.cells v))], dr 11 1 [.none, .none, .none, (.pv minV.pv), .none, .none, .none, (.pv maxV.pv)], .reg [(iI (((t_19 + 1) : Nat) : Int))], .keep [2, 3, 17, 18, 19], .drop [5]]) (cj (dltN_t h1) (cj (o_at ARat.cells (Eq.refl (((t_19 : Nat) : Int) : Int)) h2) (cj h3 (cj h4 (cj (bs_addN h5) True.intro))))) (by kernel_rfl) hL
theorem l11 (l : List ARat) (t_19 : Nat) (site_3 : ARange) (h1 : l.length ≤ t_19) : Loop1 l t_19 site_3 site_3.pv :=
  L.done mixed tabOk (n := 120) (ns := [1]) (tr := [.auto, .reg [], .dec false, .reg []]) (cj (dltN_f h1) True.intro) (by kernel_rfl)
end linkworkref03_span

namespace linkworkref03_Valid
@[reducible] noncomputable def fn : Func := Tryz.f167
theorem e0 (a : ARange) (val val1 : Bool) (cmp : Int) (h1 : Contract prg 28 [a.lo.pv] (vB val)) (h2 : val = true) (h3 : Contract prg 28 [a.hi.pv] (vB val1)) (h4 : val1 = true) (h5 : Contract prg 68 [a.lo.pv, a.hi.pv] (vI cmp)) : Contract prg 167 [a.pv] (vB (decide (cmp ≤ 0))) :=
  Contract.ofL Tryz.func167 (by kernel_rfl) (L.done mixed tabOk (n := 72) (ns := [1, 1, 1, 1, 1, 1, 1, 1, 1, 1, 1, 1, 1, 1]) (tr := [.reg [], .reg [.none, .none, (.pv (vB val)), .none, .none, .none, (.pv (vB val1)), (.dec true), .none, .none, .none, .none, .none, (.pv (vI cmp)), .none, (.dec true)]]) (cj h1 (cj h2 (cj h2 (cj h2 (cj h3 (cj h2 (cj h4 (cj h4 (cj h4 (cj h4 (cj h4 (cj h5 (cj h4 (cj h4 True.intro)))))))))))))) (by kernel_rfl))
theorem e1 (a : ARange) (val val1 : Bool) (h1 : Contract prg 28 [a.lo.pv] (vB val)) (h2 : val = true) (h3 : Contract prg 28 [a.hi.pv] (vB val1)) (h4 : val1 = false) : Contract prg 167 [a.pv] (vB false) :=
  Contract.ofL Tryz.func167 (by kernel_rfl) (L.done mixed tabOk (n := 72) (ns := [1, 1, 1, 1, 1, 1, 1, 1, 1, 1, 1, 1, 1]) (tr := [.reg [], .reg [.none, .none, (.pv (vB val)), .none, .none, .none, (.pv (vB val1)), (.dec true), .none, .skip, .skip, .skip, .skip, .skip, .skip, (.dec false)]]) (cj h1 (cj h2 (cj h2 (cj h2 (cj h3 (cj h2 (cj h4 (cj h4 (cj h4 (cj h4 (cj h4 (cj h4 (cj h4 True.intro))))))))))))) (by kernel_rfl))
theorem e2 (a : ARange) (val : Bool) (h1 : Contract prg 28 [a.lo.pv] (vB val)) (h2 : val = false) : Contract prg 167 [a.pv] (vB false) :=
  Contract.ofL Tryz.func167 (by kernel_rfl) (L.done mixed tabOk (n := 72) (ns := [1, 1, 1, 1, 1, 1, 1, 1, 1, 1, 1]) (tr := [.reg [], .reg [.none, .none, (.pv (vB val)), .none, .skip, .skip, .skip, (.dec false), .none, .skip, .skip, .skip, .skip, .skip, .skip]]) (cj h1 (cj h2 (cj h2 (cj h2 (cj h2 (cj (Eq.refl false) (cj (Eq.refl false) (cj (Eq.refl false) (cj (Eq.refl false) (cj (Eq.refl false) (cj (Eq.refl false) True.intro))))))))))) (by kernel_rfl))
end linkworkref03_Valid

end Go.Proofs.YtcgbmnkgmepikaaGreat.Sym.Path


/-
  CPo: what the functions of poly return.
-/
namespace Go.Proofs.YtcgbmnkgmepikaaGreat.Sym
open Go Path CInt
set_option linter.unusedVariables false

namespace CPo

theorem addZ (a : ARat) (h : FitR a) : Contract prg 32 [a.pv, (⟨false, [], []⟩ : ARat).pv] (mkR a.val).pv := by
  have hf := CFr.Add a ⟨false, [], []⟩ h ⟨by simp, by simp⟩
  rwa [val_nil (a := ⟨false, [], []⟩) rfl, Rat.add_zero] at hf

theorem Trim2 : ∀ (n : Nat) (q : List Rat), q.length = n → n < 4611686018427387904 → Fl 274877906944 q → poly_Trim.Loop2 (q.map mkR) (polyPV ((trimL q).map mkR)) := by
  intro n
  induction n with
  | zero =>
    intro q hq _ _
    have : q = [] := List.eq_nil_of_length_eq_zero hq
    subst this
    exact poly_Trim.l22 [] (by simp)
  | succ n ih =>
    intro q hq hb hf
    obtain ⟨v, hv⟩ : ∃ v, q[n]? = some v := ⟨_, List.getElem?_eq_getElem (by omega)⟩
    have hs := snoc_of hv hq
    have hm : (q.map mkR)[n]? = some (mkR v) := by rw [List.getElem?_map, hv]; rfl
    have hv1 := hf v (List.mem_of_getElem? hv)
    have sg := CFr.Sign (mkR v) (fit_mkR hv1)
    rw [mkR_val] at sg
    have hl : (q.map mkR).length = n + 1 := by rw [List.length_map]; exact hq
    by_cases h0 : v = 0
    · refine poly_Trim.l20 (q.map mkR) n (mkR v) _ n (by omega) (by unfold InI64; omega) (by omega) (by omega) hm sg (cmpR_eq.2 h0) (by omega) (by omega) ?_
      have := ih (q.take n) (by rw [List.length_take]; omega) (by omega) (fun x hx => hf x (List.mem_of_mem_take hx))
      rw [List.map_take] at this
      rw [hs, h0, trimL_zero]
      rw [← hs.symm, ← h0, ← hs] at *
      exact this
    · rw [hs, trimL_ne h0, ← hs]
      exact poly_Trim.l21 (q.map mkR) n (mkR v) _ (by omega) (by unfold InI64; omega) (by omega) (by omega) hm sg (fun e => h0 (cmpR_eq.1 e))
theorem Trim (l : List ARat) (hl : l.length ≤ 1099511627776) (hf : FitP 274877906944 l) : Contract prg 55 [polyPV l] (polyPV ((trimL (vals l)).map mkR)) := by
  have loop : ∀ (j t : Nat) (site : List ARat), l.length - t = j → t ≤ l.length → site = (l.take t).map (fun a => mkR a.val) → poly_Trim.Loop1 site l t (polyPV ((trimL (vals l)).map mkR)) := by
    intro j
    induction j with
    | zero =>
      intro t site hj ht hs
      have hte : t = l.length := by omega
      subst hte
      refine poly_Trim.l11 site l _ (Nat.le_refl _) ?_
      rw [List.take_of_length_le (Nat.le_refl _)] at hs
      have := Trim2 (vals l).length (vals l) rfl (by unfold vals; rw [List.length_map]; omega) (fl_vals hf (by omega))
      have e : site = (vals l).map mkR := by rw [hs]; unfold vals; rw [List.map_map]; rfl
      rw [e]; exact this
    | succ j ih =>
      intro t site hj ht hs
      obtain ⟨v, hv⟩ : ∃ v, l[t]? = some v := ⟨_, List.getElem?_eq_getElem (by omega)⟩
      have ha := addZ v (hf v (List.mem_of_getElem? hv))
      have hsl : site.length = t := by rw [hs, List.length_map, List.length_take]; omega
      refine poly_Trim.l10 site l t v _ (by omega) hv ha (by simp; omega) (by omega) (ih (t + 1) _ (by omega) (by omega) ?_)
      rw [hs, List.take_add_one, hv]; simp
  exact poly_Trim.e0 l (loop _ 0 [] rfl (by omega) rfl)
theorem Check1 : ∀ (j : Nat) (p : List ARat) (t : Nat), p.length - t = j → t ≤ p.length → p.length ≤ 65 → FitP 274877906944 p → (p.take t).all ARat.valid = true →
    (p.all ARat.valid = false → poly_Check.Loop1 p t (.iface 57 (vI 2))) ∧ (p.all ARat.valid = true → lastZ (vals p) = true → poly_Check.Loop1 p t (.iface 57 (vI 8))) ∧ (p.all ARat.valid = true → lastZ (vals p) = false → poly_Check.Loop1 p t .nilI) := by
  intro j
  induction j with
  | zero =>
    intro p t hj ht hl hf hv
    have hte : t = p.length := by omega
    subst hte
    rw [List.take_of_length_le (Nat.le_refl _)] at hv
    refine ⟨fun h => ?_, fun _ hz => ?_, fun _ hz => ?_⟩
    · rw [hv] at h; cases h
    · obtain ⟨v, h0, h1, h2⟩ := lastZ_true hz
      have sg := CFr.Sign v (hf v (List.mem_of_getElem? h1))
      exact poly_Check.l12 p _ (p.length - 1) v _ (Nat.le_refl _) h0 (by unfold InI64; omega) (by omega) h1 sg (cmpR_eq.2 h2)
    · by_cases h0 : p.length = 0
      · exact poly_Check.l14 p _ (Nat.le_refl _) (by omega)
      · obtain ⟨v, h1, h2⟩ := lastZ_false hz h0
        have sg := CFr.Sign v (hf v (List.mem_of_getElem? h1))
        exact poly_Check.l13 p _ (p.length - 1) v _ (Nat.le_refl _) (by omega) (by unfold InI64; omega) (by omega) h1 sg (fun e => h2 (cmpR_eq.1 e))
  | succ j ih =>
    intro p t hj ht hl hf hv
    obtain ⟨v, h1⟩ : ∃ v, p[t]? = some v := ⟨_, List.getElem?_eq_getElem (by omega)⟩
    have hva := CFr.Valid v (hf v (List.mem_of_getElem? h1))
    cases hc : v.valid with
    | false =>
      have hall : p.all ARat.valid = false := by
        rw [List.all_eq_false]
        exact ⟨v, List.mem_of_getElem? h1, by rw [hc]; simp⟩
      refine ⟨fun _ => poly_Check.l10 p t v _ (by omega) h1 hva hc, fun h => ?_, fun h => ?_⟩
      · rw [hall] at h; cases h
      · rw [hall] at h; cases h
    | true =>
      obtain ⟨g1, g2, g3⟩ := ih p (t + 1) (by omega) (by omega) hl hf (by rw [List.take_add_one, h1]; simp [hv, hc])
      exact ⟨fun h => poly_Check.l11 p t v _ (by omega) h1 hva hc (by omega) (g1 h), fun h h' => poly_Check.l11 p t v _ (by omega) h1 hva hc (by omega) (g2 h h'), fun h h' => poly_Check.l11 p t v _ (by omega) h1 hva hc (by omega) (g3 h h')⟩
theorem Check (p : List ARat) (hf : FitP 274877906944 p) : Contract prg 61 [polyPV p] (errPV (errOf (chk p))) := by
  unfold chk
  by_cases hl : p.length ≤ 65
  · rw [if_neg (by omega)]
    obtain ⟨g1, g2, g3⟩ := Check1 _ p 0 rfl (by omega) hl hf (by simp)
    cases hv : p.all ARat.valid with
    | false => exact poly_Check.e1 p hl (g1 hv)
    | true =>
      cases hz : lastZ (vals p) with
      | true => exact poly_Check.e1 p hl (g2 hv hz)
      | false => exact poly_Check.e1 p hl (g3 hv hz)
  · rw [if_pos (by omega)]
    exact poly_Check.e0 p (by omega)
theorem Eval1 (p : List ARat) (x : ARat) (hl : p.length ≤ 65) (hp : FitP 1073741824 p) (hx : x.num.length ≤ 1073741824 ∧ x.den.length ≤ 1073741824) : ∀ (n : Nat) (q : Rat), n ≤ p.length → q = evalL ((vals p).drop n) x.val →
    poly_Eval.Loop1 p ((n : Int) - 1) x (mkR q) (.tup [(mkR (evalL (vals p) x.val)).pv, .nilI]) := by
  intro n
  induction n with
  | zero =>
    intro q _ hq
    rw [List.drop_zero] at hq
    rw [← hq]
    exact poly_Eval.l11 p _ x _ (by omega)
  | succ n ih =>
    intro q hn hq
    obtain ⟨v, hv⟩ : ∃ v, p[n]? = some v := ⟨_, List.getElem?_eq_getElem (by omega)⟩
    have hvf := hp v (List.mem_of_getElem? hv)
    have b1 := ht_fit hvf.1 hvf.2 (by omega)
    have b2 := ht_fit hx.1 hx.2 (by omega)
    have b3 : ht q ≤ 65 * 2147483649 + 1 := by
      rw [hq]
      refine Nat.le_trans (ht_eval _ x.val 1073741824 (fun y hy => fl_vals hp (by omega) y (List.mem_of_mem_drop hy)) b2) ?_
      have : ((vals p).drop (n + 1)).length ≤ 65 := by unfold vals; simp; omega
      omega
    have m := CFr.Mul (mkR q) x (fit_mkR (by omega)) ⟨by omega, by omega⟩
    rw [mkR_val] at m
    have b4 := ht_mul q x.val
    have s := CFr.Add (mkR (q * x.val)) v (fit_mkR (by omega)) ⟨by omega, by omega⟩
    rw [mkR_val] at s
    have := ih (q * x.val + v.val) (by omega) (by rw [hq, vals_drop hv]; rfl)
    rw [show ((n + 1 : Nat) : Int) - 1 = (n : Int) from by omega]
    exact poly_Eval.l10 p (n : Int) x _ _ n v _ (by omega) m rfl hv s (by unfold InI64; omega) this
theorem Eval (p : List ARat) (x : ARat) (hc : chk p = 0) (hp : FitP 1073741824 p) (hx : x.num.length ≤ 1073741824 ∧ x.den.length ≤ 1073741824) : Contract prg 16 [polyPV p, x.pv] (.tup [(mkR (evalL (vals p) x.val)).pv, .nilI]) := by
  have hk := Check p (fun a ha => ⟨by have := (hp a ha).1; omega, by have := (hp a ha).2; omega⟩)
  rw [hc] at hk
  have hl := chk_len hc
  exact poly_Eval.e0 p x hk (by unfold InI64; omega) (Eval1 p x hl hp hx p.length 0 (Nat.le_refl _) (by rw [List.drop_of_length_le (by unfold vals; simp)]; rfl))
theorem EvalE (p : List ARat) (x : ARat) (hc : chk p ≠ 0) (hp : FitP 274877906944 p) : Contract prg 16 [polyPV p, x.pv] (.tup [(mkR 0).pv, errPV (some (chk p))]) := by
  have hk := Check p hp
  rw [errOf_ne hc] at hk
  exact poly_Eval.e1 p x _ hk
theorem derive (p : List ARat) (hl : p.length ≤ 65) (hp : FitP 137438953472 p) : Contract prg 63 [polyPV p] (polyPV ((deriveL (vals p)).map mkR)) := by
  have loop : ∀ (j i : Nat) (site : List ARat), p.length - i = j → 1 ≤ i → site = (derI 1 (((vals p).take i).drop 1)).map mkR → poly_derive.Loop1 p site i (polyPV ((deriveL (vals p)).map mkR)) := by
    intro j
    induction j with
    | zero =>
      intro i site hj h1 hs
      rw [List.take_of_length_le (by unfold vals; rw [List.length_map]; omega)] at hs
      have hfit : Fl 274877906944 (derI 1 ((vals p).drop 1)) := fl_derI (k := 137438953472) (by omega) _ 1 (by unfold vals; simp; omega) (fun y hy => fl_vals hp (by omega) y (List.mem_of_mem_drop hy))
      have ht := Trim site (by rw [hs, List.length_map, derI_len]; unfold vals; simp; omega) (by rw [hs]; exact fit_map hfit)
      rw [hs, vals_mkR] at ht
      rw [hs]
      exact poly_derive.l11 p _ i _ (by omega) ht
    | succ j ih =>
      intro i site hj h1 hs
      obtain ⟨v, hv⟩ : ∃ v, p[i]? = some v := ⟨_, List.getElem?_eq_getElem (by omega)⟩
      have hvf := hp v (List.mem_of_getElem? hv)
      have ho := CFr.Of (i : Int) (by unfold InI64; omega)
      have b1 : ht ((i : Int) : Rat) ≤ 2 := by
        rw [ht_int]
        have : wl (i : Int) ≤ 2 := wl_le (by omega)
        omega
      have m := CFr.Mul (mkR ((i : Int) : Rat)) v (fit_mkR (by omega)) ⟨by omega, by omega⟩
      rw [mkR_val] at m
      have hsl : site.length = i - 1 := by rw [hs, List.length_map, derI_len]; unfold vals; simp; omega
      refine poly_derive.l10 p site i _ v _ (by omega) ho hv m (by simp; omega) (by omega) (ih (i + 1) _ (by omega) (by omega) ?_)
      rw [hs, derI_take hv h1]
      simp
  exact poly_derive.e0 p (loop _ 1 [] rfl (by omega) (by rw [show (((vals p).take 1).drop 1) = [] from by simp]; rfl))
theorem Derive (p : List ARat) (hc : chk p = 0) (hp : FitP 137438953472 p) : Contract prg 18 [polyPV p] (.tup [polyPV ((deriveL (vals p)).map mkR), .nilI]) := by
  have hk := Check p (fun a ha => ⟨by have := (hp a ha).1; omega, by have := (hp a ha).2; omega⟩)
  rw [hc] at hk
  exact poly_Derive.e0 p _ hk (derive p (chk_len hc) hp)
end CPo
end Go.Proofs.YtcgbmnkgmepikaaGreat.Sym


/-
  CRe: what the functions of linkworkref05 return.
-/
namespace Go.Proofs.YtcgbmnkgmepikaaGreat.Sym
open Go Path CInt
set_option linter.unusedVariables false

namespace CRe

theorem addZ (a : ARat) (h : FitR a) : Contract prg 105 [a.pv, (⟨false, [], []⟩ : ARat).pv] (mkR a.val).pv := by
  have hf := CRb.Add a ⟨false, [], []⟩ h ⟨by simp, by simp⟩
  rwa [val_nil (a := ⟨false, [], []⟩) rfl, Rat.add_zero] at hf

theorem Trim2 : ∀ (n : Nat) (q : List Rat), q.length = n → n < 4611686018427387904 → Fl 274877906944 q → linkworkref05_Trim.Loop2 (q.map mkR) (polyPV ((trimL q).map mkR)) := by
  intro n
  induction n with
  | zero =>
    intro q hq _ _
    have : q = [] := List.eq_nil_of_length_eq_zero hq
    subst this
    exact linkworkref05_Trim.l22 [] (by simp)
  | succ n ih =>
    intro q hq hb hf
    obtain ⟨v, hv⟩ : ∃ v, q[n]? = some v := ⟨_, List.getElem?_eq_getElem (by omega)⟩
    have hs := snoc_of hv hq
    have hm : (q.map mkR)[n]? = some (mkR v) := by rw [List.getElem?_map, hv]; rfl
    have hv1 := hf v (List.mem_of_getElem? hv)
    have sg := CRb.Sign (mkR v) (fit_mkR hv1)
    rw [mkR_val] at sg
    have hl : (q.map mkR).length = n + 1 := by rw [List.length_map]; exact hq
    by_cases h0 : v = 0
    · refine linkworkref05_Trim.l20 (q.map mkR) n (mkR v) _ n (by omega) (by unfold InI64; omega) (by omega) (by omega) hm sg (cmpR_eq.2 h0) (by omega) (by omega) ?_
      have := ih (q.take n) (by rw [List.length_take]; omega) (by omega) (fun x hx => hf x (List.mem_of_mem_take hx))
      rw [List.map_take] at this
      rw [hs, h0, trimL_zero]
      rw [← hs.symm, ← h0, ← hs] at *
      exact this
    · rw [hs, trimL_ne h0, ← hs]
      exact linkworkref05_Trim.l21 (q.map mkR) n (mkR v) _ (by omega) (by unfold InI64; omega) (by omega) (by omega) hm sg (fun e => h0 (cmpR_eq.1 e))
theorem Trim (l : List ARat) (hl : l.length ≤ 1099511627776) (hf : FitP 274877906944 l) : Contract prg 60 [polyPV l] (polyPV ((trimL (vals l)).map mkR)) := by
  have loop : ∀ (j t : Nat) (site : List ARat), l.length - t = j → t ≤ l.length → site = (l.take t).map (fun a => mkR a.val) → linkworkref05_Trim.Loop1 site l t (polyPV ((trimL (vals l)).map mkR)) := by
    intro j
    induction j with
    | zero =>
      intro t site hj ht hs
      have hte : t = l.length := by omega
      subst hte
      refine linkworkref05_Trim.l11 site l _ (Nat.le_refl _) ?_
      rw [List.take_of_length_le (Nat.le_refl _)] at hs
      have := Trim2 (vals l).length (vals l) rfl (by unfold vals; rw [List.length_map]; omega) (fl_vals hf (by omega))
      have e : site = (vals l).map mkR := by rw [hs]; unfold vals; rw [List.map_map]; rfl
      rw [e]; exact this
    | succ j ih =>
      intro t site hj ht hs
      obtain ⟨v, hv⟩ : ∃ v, l[t]? = some v := ⟨_, List.getElem?_eq_getElem (by omega)⟩
      have ha := addZ v (hf v (List.mem_of_getElem? hv))
      have hsl : site.length = t := by rw [hs, List.length_map, List.length_take]; omega
      refine linkworkref05_Trim.l10 site l t v _ (by omega) hv ha (by simp; omega) (by omega) (ih (t + 1) _ (by omega) (by omega) ?_)
      rw [hs, List.take_add_one, hv]; simp
  exact linkworkref05_Trim.e0 l (loop _ 0 [] rfl (by omega) rfl)
theorem Check1 : ∀ (j : Nat) (p : List ARat) (t : Nat), p.length - t = j → t ≤ p.length → p.length ≤ 65 → FitP 274877906944 p → (p.take t).all ARat.valid = true →
    (p.all ARat.valid = false → linkworkref05_Check.Loop1 p t (vI 2)) ∧ (p.all ARat.valid = true → lastZ (vals p) = true → linkworkref05_Check.Loop1 p t (vI 8)) ∧ (p.all ARat.valid = true → lastZ (vals p) = false → linkworkref05_Check.Loop1 p t (vI 0)) := by
  intro j
  induction j with
  | zero =>
    intro p t hj ht hl hf hv
    have hte : t = p.length := by omega
    subst hte
    rw [List.take_of_length_le (Nat.le_refl _)] at hv
    refine ⟨fun h => ?_, fun _ hz => ?_, fun _ hz => ?_⟩
    · rw [hv] at h; cases h
    · obtain ⟨v, h0, h1, h2⟩ := lastZ_true hz
      have sg := CRb.Sign v (hf v (List.mem_of_getElem? h1))
      exact linkworkref05_Check.l12 p _ (p.length - 1) v _ (Nat.le_refl _) h0 (by unfold InI64; omega) (by omega) h1 sg (cmpR_eq.2 h2)
    · by_cases h0 : p.length = 0
      · exact linkworkref05_Check.l14 p _ (Nat.le_refl _) (by omega)
      · obtain ⟨v, h1, h2⟩ := lastZ_false hz h0
        have sg := CRb.Sign v (hf v (List.mem_of_getElem? h1))
        exact linkworkref05_Check.l13 p _ (p.length - 1) v _ (Nat.le_refl _) (by omega) (by unfold InI64; omega) (by omega) h1 sg (fun e => h2 (cmpR_eq.1 e))
  | succ j ih =>
    intro p t hj ht hl hf hv
    obtain ⟨v, h1⟩ : ∃ v, p[t]? = some v := ⟨_, List.getElem?_eq_getElem (by omega)⟩
    have hva := CRb.Valid v (hf v (List.mem_of_getElem? h1))
    cases hc : v.valid with
    | false =>
      have hall : p.all ARat.valid = false := by
        rw [List.all_eq_false]
        exact ⟨v, List.mem_of_getElem? h1, by rw [hc]; simp⟩
      refine ⟨fun _ => linkworkref05_Check.l10 p t v _ (by omega) h1 hva hc, fun h => ?_, fun h => ?_⟩
      · rw [hall] at h; cases h
      · rw [hall] at h; cases h
    | true =>
      obtain ⟨g1, g2, g3⟩ := ih p (t + 1) (by omega) (by omega) hl hf (by rw [List.take_add_one, h1]; simp [hv, hc])
      exact ⟨fun h => linkworkref05_Check.l11 p t v _ (by omega) h1 hva hc (by omega) (g1 h), fun h h' => linkworkref05_Check.l11 p t v _ (by omega) h1 hva hc (by omega) (g2 h h'), fun h h' => linkworkref05_Check.l11 p t v _ (by omega) h1 hva hc (by omega) (g3 h h')⟩
theorem Check (p : List ARat) (hf : FitP 274877906944 p) : Contract prg 69 [polyPV p] (vI (chk p)) := by
  unfold chk
  by_cases hl : p.length ≤ 65
  · rw [if_neg (by omega)]
    obtain ⟨g1, g2, g3⟩ := Check1 _ p 0 rfl (by omega) hl hf (by simp)
    cases hv : p.all ARat.valid with
    | false => exact linkworkref05_Check.e1 p hl (g1 hv)
    | true =>
      cases hz : lastZ (vals p) with
      | true => exact linkworkref05_Check.e1 p hl (g2 hv hz)
      | false => exact linkworkref05_Check.e1 p hl (g3 hv hz)
  · rw [if_pos (by omega)]
    exact linkworkref05_Check.e0 p (by omega)
theorem Eval1 (p : List ARat) (x : ARat) (hl : p.length ≤ 65) (hp : FitP 1073741824 p) (hx : x.num.length ≤ 1073741824 ∧ x.den.length ≤ 1073741824) : ∀ (n : Nat) (q : Rat), n ≤ p.length → q = evalL ((vals p).drop n) x.val →
    linkworkref05_At.Loop1 p ((n : Int) - 1) x (mkR q) (mkR (evalL (vals p) x.val)).pv := by
  intro n
  induction n with
  | zero =>
    intro q _ hq
    rw [List.drop_zero] at hq
    rw [← hq]
    exact linkworkref05_At.l11 p _ x _ (by omega)
  | succ n ih =>
    intro q hn hq
    obtain ⟨v, hv⟩ : ∃ v, p[n]? = some v := ⟨_, List.getElem?_eq_getElem (by omega)⟩
    have hvf := hp v (List.mem_of_getElem? hv)
    have b1 := ht_fit hvf.1 hvf.2 (by omega)
    have b2 := ht_fit hx.1 hx.2 (by omega)
    have b3 : ht q ≤ 65 * 2147483649 + 1 := by
      rw [hq]
      refine Nat.le_trans (ht_eval _ x.val 1073741824 (fun y hy => fl_vals hp (by omega) y (List.mem_of_mem_drop hy)) b2) ?_
      have : ((vals p).drop (n + 1)).length ≤ 65 := by unfold vals; simp; omega
      omega
    have m := CRb.Mul (mkR q) x (fit_mkR (by omega)) ⟨by omega, by omega⟩
    rw [mkR_val] at m
    have b4 := ht_mul q x.val
    have s := CRb.Add (mkR (q * x.val)) v (fit_mkR (by omega)) ⟨by omega, by omega⟩
    rw [mkR_val] at s
    have := ih (q * x.val + v.val) (by omega) (by rw [hq, vals_drop hv]; rfl)
    rw [show ((n + 1 : Nat) : Int) - 1 = (n : Int) from by omega]
    exact linkworkref05_At.l10 p (n : Int) x _ _ n v _ (by omega) m rfl hv s (by unfold InI64; omega) this
theorem At (p : List ARat) (x : ARat) (hl : p.length ≤ 65) (hp : FitP 1073741824 p) (hx : x.num.length ≤ 1073741824 ∧ x.den.length ≤ 1073741824) : Contract prg 77 [polyPV p, x.pv] (mkR (evalL (vals p) x.val)).pv := by
  exact linkworkref05_At.e0 p x (by unfold InI64; omega) (Eval1 p x hl hp hx p.length 0 (Nat.le_refl _) (by rw [List.drop_of_length_le (by unfold vals; simp)]; rfl))
theorem derive (p : List ARat) (hl : p.length ≤ 65) (hp : FitP 137438953472 p) : Contract prg 156 [polyPV p] (polyPV ((deriveL (vals p)).map mkR)) := by
  have loop : ∀ (j i : Nat) (site : List ARat), p.length - i = j → i ≤ p.length → site = (derI 1 (((vals p).take i).drop 1)).map mkR → linkworkref05_derive.Loop1 site p i (polyPV ((deriveL (vals p)).map mkR)) := by
    intro j
    induction j with
    | zero =>
      intro i site hj h1 hs
      rw [List.take_of_length_le (by unfold vals; rw [List.length_map]; omega)] at hs
      have hfit : Fl 274877906944 (derI 1 ((vals p).drop 1)) := fl_derI (k := 137438953472) (by omega) _ 1 (by unfold vals; simp; omega) (fun y hy => fl_vals hp (by omega) y (List.mem_of_mem_drop hy))
      have ht := Trim site (by rw [hs, List.length_map, derI_len]; unfold vals; simp; omega) (by rw [hs]; exact fit_map hfit)
      rw [hs, vals_mkR] at ht
      rw [hs]
      exact linkworkref05_derive.l12 _ p i _ (by omega) ht
    | succ j ih =>
      intro i site hj h1 hs
      obtain ⟨v, hv⟩ : ∃ v, p[i]? = some v := ⟨_, List.getElem?_eq_getElem (by omega)⟩
      by_cases hi : i = 0
      · subst hi
        refine linkworkref05_derive.l11 site p 0 v (by omega) hv (by omega) (by omega) (ih 1 site (by omega) (by omega) ?_)
        rw [hs]; simp
      · have hvf := hp v (List.mem_of_getElem? hv)
        have ho := CRb.Of (i : Int) (by unfold InI64; omega)
        have b1 : ht ((i : Int) : Rat) ≤ 2 := by
          rw [ht_int]
          have : wl (i : Int) ≤ 2 := wl_le (by omega)
          omega
        have m := CRb.Mul (mkR ((i : Int) : Rat)) v (fit_mkR (by omega)) ⟨by omega, by omega⟩
        rw [mkR_val] at m
        have hsl : site.length = i - 1 := by rw [hs, List.length_map, derI_len]; unfold vals; simp; omega
        refine linkworkref05_derive.l10 site p i v _ _ (by omega) hv (by omega) ho m (by simp; omega) (by omega) (ih (i + 1) _ (by omega) (by omega) ?_)
        rw [hs, derI_take hv (by omega)]
        simp
  exact linkworkref05_derive.e0 p (loop _ 0 [] rfl (by omega) (by rw [show (((vals p).take 0).drop 1) = [] from by simp]; rfl))
theorem Derive (p : List ARat) (hc : chk p = 0) (hp : FitP 137438953472 p) : Contract prg 119 [polyPV p] (.tup [polyPV ((deriveL (vals p)).map mkR), vI 0]) := by
  have hk := Check p (fun a ha => ⟨by have := (hp a ha).1; omega, by have := (hp a ha).2; omega⟩)
  exact linkworkref05_Derive.e1 p _ _ hk hc (derive p (chk_len hc) hp)
end CRe
end Go.Proofs.YtcgbmnkgmepikaaGreat.Sym


/-
  CBa: what the functions of linkworkbase return.
-/
namespace Go.Proofs.YtcgbmnkgmepikaaGreat.Sym
open Go Path CInt
set_option linter.unusedVariables false

/-- Are two fractions equal, field by field? -/
def eqR (a b : ARat) : Bool := decide (a.neg = b.neg) && (decide (a.num = b.num) && decide (a.den = b.den))

theorem eqR_iff {a b : ARat} : eqR a b = true ↔ a = b := by
  obtain ⟨n, m, d⟩ := a
  obtain ⟨n', m', d'⟩ := b
  unfold eqR
  simp only [Bool.and_eq_true, decide_eq_true_eq, ARat.mk.injEq]

theorem eqR_self (a : ARat) : eqR a a = true := eqR_iff.2 rfl

def eqRs : List ARat → List ARat → Bool
  | [], [] => true
  | a :: r, b :: s => eqR a b && eqRs r s
  | _, _ => false

theorem eqRs_iff : ∀ {p q : List ARat}, eqRs p q = true ↔ p = q
  | [], [] => by simp [eqRs]
  | a :: r, b :: s => by
    show (eqR a b && eqRs r s) = true ↔ _
    rw [Bool.and_eq_true, eqR_iff, eqRs_iff, List.cons.injEq]
  | [], b :: s => by simp [eqRs]
  | a :: r, [] => by simp [eqRs]

theorem eqRs_self (p : List ARat) : eqRs p p = true := eqRs_iff.2 rfl

theorem eqRs_ne {p q : List ARat} (h : p ≠ q) : eqRs p q = false := by
  cases hb : eqRs p q with
  | true => exact absurd (eqRs_iff.1 hb) h
  | false => rfl

namespace CBa

theorem Words (a b : Sym.Words) (hl : a.length < 9223372036854775807) : Contract prg 62 [wordsPV a, wordsPV b] (vB (decide (a = b))) := by
  by_cases h : a.length = b.length
  · have loop : ∀ (j t : Nat), a.length - t = j → t ≤ a.length → a.take t = b.take t → linkworkbase_Words.Loop1 a b t (vB (decide (a = b))) := by
      intro j
      induction j with
      | zero =>
        intro t hj ht he
        rw [List.take_of_length_le (by omega), List.take_of_length_le (by omega)] at he
        rw [decide_eq_true he]
        exact linkworkbase_Words.l12 a b t (by omega)
      | succ j ih =>
        intro t hj ht he
        obtain ⟨v, hv⟩ : ∃ v, a[t]? = some v := ⟨_, List.getElem?_eq_getElem (by omega)⟩
        obtain ⟨w, hw⟩ : ∃ w, b[t]? = some w := ⟨_, List.getElem?_eq_getElem (by omega)⟩
        by_cases h0 : v.toNat = w.toNat
        · exact linkworkbase_Words.l11 a b t v w (by omega) hv hw h0 (by omega) (ih (t + 1) (by omega) (by omega) (by rw [List.take_add_one, List.take_add_one, he, hv, hw, w_eq h0]))
        · have hne : a ≠ b := by
            intro e; subst e
            rw [hv] at hw; injection hw with hw
            exact h0 (by rw [hw])
          rw [decide_eq_false hne]
          exact linkworkbase_Words.l10 a b t v w (by omega) hv hw h0
    exact linkworkbase_Words.e1 a b h (loop _ 0 rfl (by omega) rfl)
  · rw [decide_eq_false (fun e => h (by rw [e]))]
    exact linkworkbase_Words.e0 a b h

theorem Rat (a b : ARat) (h1 : a.num.length < 9223372036854775807) (h2 : a.den.length < 9223372036854775807) : Contract prg 17 [a.pv, b.pv] (vB (eqR a b)) := by
  unfold eqR
  by_cases hn : a.neg = b.neg
  · rw [decide_eq_true hn, Bool.true_and]
    have w1 := Words a.num b.num h1
    have w2 := Words a.den b.den h2
    cases hw : decide (a.num = b.num) with
    | true => rw [Bool.true_and]; rw [hw] at w1; exact linkworkbase_Rat.e0 a b _ _ hn w1 rfl w2
    | false => rw [Bool.false_and]; rw [hw] at w1; exact linkworkbase_Rat.e1 a b _ hn w1 rfl
  · rw [decide_eq_false hn, Bool.false_and]
    exact linkworkbase_Rat.e2 a b hn

theorem Rats (p q : List ARat) (hl : p.length < 9223372036854775807) (hf : ∀ a ∈ p, a.num.length < 9223372036854775807 ∧ a.den.length < 9223372036854775807) : Contract prg 49 [polyPV p, polyPV q] (vB (eqRs p q)) := by
  by_cases h : p.length = q.length
  · have loop : ∀ (j t : Nat), p.length - t = j → t ≤ p.length → p.take t = q.take t → linkworkbase_Rats.Loop1 p q t (vB (eqRs p q)) := by
      intro j
      induction j with
      | zero =>
        intro t hj ht he
        rw [List.take_of_length_le (by omega), List.take_of_length_le (by omega)] at he
        rw [eqRs_iff.2 he]
        exact linkworkbase_Rats.l12 p q t (by omega)
      | succ j ih =>
        intro t hj ht he
        obtain ⟨v, hv⟩ : ∃ v, p[t]? = some v := ⟨_, List.getElem?_eq_getElem (by omega)⟩
        obtain ⟨w, hw⟩ : ∃ w, q[t]? = some w := ⟨_, List.getElem?_eq_getElem (by omega)⟩
        have hvf := hf v (List.mem_of_getElem? hv)
        have hr := Rat v w hvf.1 hvf.2
        cases h0 : eqR v w with
        | true =>
          rw [h0] at hr
          exact linkworkbase_Rats.l11 p q t v w _ (by omega) hv hw hr rfl (by omega) (ih (t + 1) (by omega) (by omega) (by rw [List.take_add_one, List.take_add_one, he, hv, hw, eqR_iff.1 h0]))
        | false =>
          have hne : p ≠ q := by
            intro e; subst e
            rw [hv] at hw; injection hw with hw
            rw [hw, eqR_self] at h0; cases h0
          rw [eqRs_ne hne]
          rw [h0] at hr
          exact linkworkbase_Rats.l10 p q t v w _ (by omega) hv hw hr rfl
    exact linkworkbase_Rats.e1 p q h (loop _ 0 rfl (by omega) rfl)
  · rw [eqRs_ne (fun e => h (by rw [e]))]
    exact linkworkbase_Rats.e0 p q h

/-- The number of an error. -/
theorem Num (e : Option Int) : Contract prg 14 [errPV e] (vI (e.getD 0)) := by
  cases e with
  | none => exact linkworkbase_Num.e0
  | some n => exact linkworkbase_Num.e1 n

theorem Is (e : Option Int) (code : Int) : Contract prg 29 [errPV e, vI code] (vB (e.getD 0 == code)) := linkworkbase_Is.e0 e code _ (Num e)

end CBa
end Go.Proofs.YtcgbmnkgmepikaaGreat.Sym


/-
  LawP: laws of motion in plain terms.
-/
namespace Go.Proofs.YtcgbmnkgmepikaaGreat.Sym
open Go Path CInt
set_option linter.unusedVariables false

theorem cmpR_ge {p q : Rat} : 0 ≤ cmpR p q ↔ q ≤ p := by
  constructor
  · intro h
    have : ¬ p < q := fun e => by have := cmpR_lt.2 e; omega
    grind
  · intro h
    refine Int.not_lt.1 fun e => ?_
    have := cmpR_lt.1 e
    grind
theorem cmpR_le {p q : Rat} : cmpR p q ≤ 0 ↔ p ≤ q := by
  constructor
  · intro h
    have : ¬ q < p := fun e => by have := cmpR_gt.2 e; omega
    grind
  · intro h
    refine Int.not_lt.1 fun e => ?_
    have := cmpR_gt.1 e
    grind

/-- Is a break not allowed behind another one? -/
def badB (p : Option Rat) (v : Rat) : Bool := match p with
  | none => decide (v ≠ 0)
  | some q => decide (v ≤ q)
def outB (b : ARat) : Bool := !b.valid || (decide (b.val < 0) || decide (1 ≤ b.val))
def chkB : Option Rat → List ARat → Int
  | _, [] => 0
  | p, b :: r => bif outB b then 3 else bif badB p b.val then 12 else chkB (some b.val) r
def chkP : List (List ARat) → Int
  | [] => 0
  | p :: r => bif decide (chk p ≠ 0) then chk p else bif Nat.blt 9 p.length then 4 else chkP r
def chkR (p : Option Rat) (bs : List ARat) (ps : List (List ARat)) : Int := bif decide (chkB p bs ≠ 0) then chkB p bs else chkP ps
/-- The number of the error of a law. -/
def chkLaw (l : ALaw) : Int := if l.breaks.length = 0 ∨ l.breaks.length ≠ l.pieces.length then 10 else if 16 < l.breaks.length then 4 else chkR none l.breaks l.pieces

abbrev FitW (k : Nat) (l : ALaw) : Prop := FitP k l.breaks ∧ ∀ p ∈ l.pieces, FitP k p

theorem chkR_stop {p : Option Rat} {bs : List ARat} {ps : List (List ARat)} {n : Int} (h : chkB p bs = n) (h0 : n ≠ 0) : chkR p bs ps = n := by
  unfold chkR; rw [h, decide_eq_true h0]; rfl
theorem chkR_nil {p : Option Rat} {ps : List (List ARat)} : chkR p [] ps = chkP ps := rfl
theorem chkR_cons {p : Option Rat} {b : ARat} {r : List ARat} {ps : List (List ARat)} (h1 : outB b = false) (h2 : badB p b.val = false) : chkR p (b :: r) ps = chkR (some b.val) r ps := by
  unfold chkR
  rw [show chkB p (b :: r) = chkB (some b.val) r from by rw [chkB, h1, h2]; rfl]
theorem chkB_out {p : Option Rat} {b : ARat} {r : List ARat} (h1 : outB b = true) : chkB p (b :: r) = 3 := by rw [chkB, h1]; rfl
theorem chkB_bad {p : Option Rat} {b : ARat} {r : List ARat} (h1 : outB b = false) (h2 : badB p b.val = true) : chkB p (b :: r) = 12 := by rw [chkB, h1, h2]; rfl

theorem outB_inv {b : ARat} (h : b.valid = false) : outB b = true := by unfold outB; rw [h]; rfl
theorem outB_lt {b : ARat} (h : b.val < 0) : outB b = true := by unfold outB; rw [decide_eq_true h]; simp
theorem outB_ge {b : ARat} (h : 1 ≤ b.val) : outB b = true := by unfold outB; rw [decide_eq_true h]; simp
theorem outB_no {b : ARat} (h : b.valid = true) (h1 : ¬ b.val < 0) (h2 : ¬ 1 ≤ b.val) : outB b = false := by
  unfold outB; rw [h, decide_eq_false h1, decide_eq_false h2]; rfl
theorem outB_parts {b : ARat} (h : outB b = false) : b.valid = true ∧ 0 ≤ b.val ∧ b.val < 1 := by
  unfold outB at h
  rw [Bool.or_eq_false_iff, Bool.or_eq_false_iff] at h
  obtain ⟨h1, h2, h3⟩ := h
  have h2 := of_decide_eq_false h2
  have h3 := of_decide_eq_false h3
  exact ⟨by simpa using h1, by grind, by grind⟩

theorem drop_cons {α : Type} {l : List α} {t : Nat} {v : α} (h : l[t]? = some v) : l.drop t = v :: l.drop (t + 1) := by
  obtain ⟨h1, h2⟩ := List.getElem?_eq_some_iff.1 h
  rw [List.drop_eq_getElem_cons h1, h2]

/-- What breaks are that are in order. -/
theorem chkB_asc : ∀ (bs : List ARat) (p : Option Rat), chkB p bs = 0 → bs.all ARat.valid = true ∧ (∀ b ∈ bs, 0 ≤ b.val ∧ b.val < 1) ∧ (vals bs).Pairwise (· < ·) ∧ (∀ q, p = some q → ∀ b ∈ bs, q < b.val)
  | [], p, _ => ⟨rfl, (fun b h => by cases h), List.Pairwise.nil, (fun q _ b h => by cases h)⟩
  | b :: r, p, h => by
    cases h1 : outB b with
    | true => rw [chkB_out h1] at h; cases h
    | false =>
      cases h2 : badB p b.val with
      | true => rw [chkB_bad h1 h2] at h; cases h
      | false =>
        rw [show chkB p (b :: r) = chkB (some b.val) r from by rw [chkB, h1, h2]; rfl] at h
        obtain ⟨g1, g2, g3, g4⟩ := chkB_asc r _ h
        obtain ⟨o1, o2, o3⟩ := outB_parts h1
        refine ⟨by rw [List.all_cons, o1, g1]; rfl, ?_, ?_, ?_⟩
        · intro c hc
          rcases List.mem_cons.1 hc with e | hc
          · rw [e]; exact ⟨o2, o3⟩
          · exact g2 c hc
        · refine List.Pairwise.cons ?_ g3
          intro c hc
          obtain ⟨a, ha, rfl⟩ := List.mem_map.1 hc
          exact g4 _ rfl a ha
        · intro q hq c hc
          subst hq
          have hb : q < b.val := by
            have := of_decide_eq_false h2
            grind
          rcases List.mem_cons.1 hc with e | hc
          · rw [e]; exact hb
          · have := g4 _ rfl c hc
            grind

theorem chkP_all : ∀ (ps : List (List ARat)), chkP ps = 0 → ∀ p ∈ ps, chk p = 0 ∧ p.length ≤ 9
  | [], _ => fun p h => by cases h
  | a :: r, h => by
    rw [chkP] at h
    by_cases h1 : chk a = 0
    · rw [decide_eq_false (by simpa using h1), cond_false] at h
      cases h2 : Nat.blt 9 a.length with
      | true => rw [h2] at h; cases h
      | false =>
        rw [h2, cond_false] at h
        have h3 : ¬ 9 < a.length := by
          intro h3
          have : Nat.blt 9 a.length = true := by simpa [Nat.blt_eq] using h3
          rw [h2] at this; cases this
        intro p hp
        rcases List.mem_cons.1 hp with e | hp
        · rw [e]; exact ⟨h1, by omega⟩
        · exact chkP_all r h p hp
    · rw [decide_eq_true h1, cond_true] at h
      exact absurd h h1

/-- What a law is that is in order. -/
structure Good (l : ALaw) : Prop where
  n0 : l.breaks.length ≠ 0
  len : l.breaks.length = l.pieces.length
  le : l.breaks.length ≤ 16
  valid : l.breaks.all ARat.valid = true
  unit : ∀ b ∈ l.breaks, 0 ≤ b.val ∧ b.val < 1
  asc : (vals l.breaks).Pairwise (· < ·)
  first : ∀ v, l.breaks[0]? = some v → v.val = 0
  ps : ∀ p ∈ l.pieces, chk p = 0 ∧ p.length ≤ 9

theorem good_of {l : ALaw} (h : chkLaw l = 0) : Good l := by
  unfold chkLaw at h
  split at h
  · cases h
  · split at h
    · cases h
    · rename_i h1 h2
      unfold chkR at h
      by_cases hb : chkB none l.breaks = 0
      · rw [hb] at h
        have h : chkP l.pieces = 0 := h
        obtain ⟨g1, g2, g3, g4⟩ := chkB_asc _ _ hb
        refine ⟨by omega, by omega, by omega, g1, g2, g3, ?_, chkP_all _ h⟩
        intro v hv
        cases hl : l.breaks with
        | nil => rw [hl] at hv; cases hv
        | cons b r =>
          rw [hl] at hv hb
          have e : b = v := by simpa using hv
          subst e
          cases o : outB b with
          | true => rw [chkB_out o] at hb; cases hb
          | false =>
            cases o2 : badB none b.val with
            | true => rw [chkB_bad o o2] at hb; cases hb
            | false => have := of_decide_eq_false o2; simpa using this
      · rw [decide_eq_true hb, cond_true] at h
        exact absurd h hb

/-- A number less its floor. -/
def frac (x : Rat) : Rat := x - (x.floor : Rat)

theorem ht_frac {x : Rat} {k : Nat} (h : ht x ≤ k) : ht (frac x) ≤ 2 * k + 2 := by
  have h1 := ht_sub x (x.floor : Rat)
  have h2 := ht_int x.floor
  have h3 := wl_floor x
  unfold frac
  omega

def pieceF : List Rat → Rat → Nat
  | [], _ => 0
  | b :: r, x => bif decide (b ≤ x) then pieceF r x + 1 else 0
/-- The number of the piece. -/
def pieceL (bs : List Rat) (x : Rat) : Nat := pieceF (bs.drop 1) x

theorem pieceF_eq : ∀ (r : List Rat) (x : Rat) (i : Nat), (∀ j b, j < i → r[j]? = some b → b ≤ x) → (∀ b, r[i]? = some b → x < b) → i ≤ r.length → pieceF r x = i
  | [], x, i, _, _, h => by have : i = 0 := by simpa using h
                            subst this; rfl
  | b :: r, x, 0, _, h, _ => by
    have := h b rfl
    rw [pieceF, decide_eq_false (by grind)]; rfl
  | b :: r, x, i + 1, h1, h2, h3 => by
    have := h1 0 b (by omega) rfl
    rw [pieceF, decide_eq_true this, cond_true, pieceF_eq r x i (fun j c hj hc => h1 (j + 1) c (by omega) hc) (fun c hc => h2 c hc) (by simpa using h3)]

theorem pieceF_le : ∀ (r : List Rat) (x : Rat), pieceF r x ≤ r.length
  | [], _ => by simp [pieceF]
  | b :: r, x => by
    rw [pieceF]
    have := pieceF_le r x
    cases decide (b ≤ x) <;> simp <;> omega

theorem pieceL_lt {bs : List Rat} (h : bs.length ≠ 0) (x : Rat) : pieceL bs x < bs.length := by
  have := pieceF_le (bs.drop 1) x
  unfold pieceL
  rw [List.length_drop] at this
  omega

/-- The value of a law. -/
def atW (l : ALaw) (x : Rat) : Rat := evalL (vals (l.pieces.getD (pieceL (vals l.breaks) (frac x)) [])) (frac x - (l.breaks.getD (pieceL (vals l.breaks) (frac x)) ⟨false, [], []⟩).val)

/-- The end of a piece. -/
def endW (l : ALaw) (i : Nat) : Rat := match l.breaks[i + 1]? with
  | some v => v.val
  | none => (1 : Int)

/-- The derivative of a law. -/
def deriveW (l : ALaw) : ALaw := ⟨(vals l.breaks).map mkR, l.pieces.map (fun p => (deriveL (vals p)).map mkR)⟩

/-- The coefficients of a rise: as the program and as the reference reckon them. -/
def riseG (s u : Rat) : Rat → List Int → List Rat
  | _, [] => []
  | w, n :: r => s * ((n : Rat) * w) :: riseG s u (w * u) r
def riseH (len : Rat) : Rat → List Int → List Rat
  | _, [] => []
  | s, n :: r => s * (n : Rat) :: riseH len (s / len) r
def riseN (degree : Int) : List Int := if degree = 1 then [0, 1] else if degree = 3 then [0, 0, 3, -2] else [0, 0, 0, 10, -15, 6]
/-- The polynomial of a rise. -/
def riseL (len x y : Rat) (degree : Int) : List Rat := trimL (x :: (riseG (y - x) (1 / len) (1 / len) ((riseN degree).drop 1)))
def riseC (len x y : ARat) (degree : Int) : Int := bif !len.valid || (decide (len.val ≤ 0) || (!x.valid || !y.valid)) then 3 else if degree = 1 ∨ degree = 3 ∨ degree = 5 then 0 else 7

theorem rise_same (len x y : Rat) (degree : Int) : (x :: (riseG (y - x) (1 / len) (1 / len) ((riseN degree).drop 1))) = (riseH len (y - x) (riseN degree)).set 0 x := by
  unfold riseN
  split
  · simp only [List.drop, riseG, riseH, List.set, List.cons.injEq, and_true, true_and, Rat.div_def]
    grind
  · split
    · simp only [List.drop, riseG, riseH, List.set, List.cons.injEq, and_true, true_and, Rat.div_def]
      refine ⟨?_, ?_, ?_⟩ <;> grind
    · simp only [List.drop, riseG, riseH, List.set, List.cons.injEq, and_true, true_and, Rat.div_def]
      refine ⟨?_, ?_, ?_, ?_, ?_⟩ <;> grind

end Go.Proofs.YtcgbmnkgmepikaaGreat.Sym

