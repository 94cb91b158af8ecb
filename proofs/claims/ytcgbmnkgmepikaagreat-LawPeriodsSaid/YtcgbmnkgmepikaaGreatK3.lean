/- The statement LawPeriods is proved: periods, bounds and dwells of layer 52; no condition. -/
import Derived.Test.YtcgbmnkgmepikaaGreatK0
import Derived.Test.YtcgbmnkgmepikaaGreatK2
import Derived.Test.YtcgbmnkgmepikaaGreatRows
import Derived.JoinedCond
namespace Go.Proofs.YtcgbmnkgmepikaaGreat.Sym.Path
open Go
set_option maxRecDepth 20000
set_option linter.unusedVariables false
namespace linkworklaw52_valid
theorem e0 (l : ALaw) (lar : Bool) (che : Int) (h1 : Contract prg 20 [l.pv] (vB lar)) (h2 : lar = false) (h3 : Contract prg 23 [l.pv] (vI che)) : Contract prg 31 [l.pv] (vB (che == 0)) :=
  Contract.ofL Tryz.func31 (by kernel_rfl) (L.done mixed tabOk (n := 72) (ns := [1, 1, 1, 1, 1, 1]) (tr := [.reg [], .reg [.none, (.pv (vB lar)), .none, .none, .none, (.pv (vI che)), .none, (.dec true)]]) (cj h1 (cj (bnot_t h2) (cj (bnot_t h2) (cj h3 (cj (bnot_t h2) (cj (bnot_t h2) True.intro)))))) (by kernel_rfl))
theorem e1 (l : ALaw) (lar : Bool) (h1 : Contract prg 20 [l.pv] (vB lar)) (h2 : lar = true) : Contract prg 31 [l.pv] (vB false) :=
  Contract.ofL Tryz.func31 (by kernel_rfl) (L.done mixed tabOk (n := 72) (ns := [1, 1, 1, 1, 1]) (tr := [.reg [], .reg [.none, (.pv (vB lar)), .none, .none, .skip, .skip, .skip, (.dec false)]]) (cj h1 (cj (bnot_f h2) (cj (bnot_f h2) (cj (bnot_f h2) (cj (bnot_f h2) True.intro))))) (by kernel_rfl))
end linkworklaw52_valid
namespace linkworklaw52_LawPeriods
@[reducible] noncomputable def fn : Func := Tryz.f5
noncomputable def atK1 : List Itm := focus [0, 2, 0, 0, 2, 1, 2, 0, 2, 0, 2, 0, 2, 0, 2, 0, 2, 0, 2, 0, 0, 2, 1, 2, 0, 2, 0, 0, 2, 0, 0] [.code (bodyOf fn)]
def inv1 (dwe : List AArc) (i_17 : Nat) (l : ALaw) (fra atV atV4 : ARat) : St := ⟨[(2, (.ptr 2 0)), (3, (.ptr 3 0)), (5, (.ptr 5 0)), (13, (.ptr 13 0)), (15, (.pv (lpv AArc.cells dwe))), (17, (eI (i_17 : Int)))], [(2, (.lit [(.pv (polyPV l.breaks)), (.pv (lpv (lcell ARat.cells) l.pieces))])), (3, (.lit [(eB fra.neg), (.pv (wordsPV fra.num)), (.pv (wordsPV fra.den))])), (5, (.lit [(eB atV.neg), (.pv (wordsPV atV.num)), (.pv (wordsPV atV.den))])), (13, (.lit [(eB atV4.neg), (.pv (wordsPV atV4.num)), (.pv (wordsPV atV4.den))]))]⟩
@[reducible] noncomputable def Loop1 (dwe : List AArc) (i_17 : Nat) (l : ALaw) (fra atV atV4 : ARat) (r : PV) : Prop := L prg fn atK1 (inv1 dwe i_17 l fra atV atV4) r
theorem e1 (l : ALaw) (x : ARat) (awa val awa1 : Bool) (h1 : Contract prg 10 [] (vB awa)) (h2 : awa = true) (h3 : Contract prg 31 [l.pv] (vB val)) (h4 : val = false) (h5 : Contract prg 10 [] (vB awa1)) : Contract prg 5 [l.pv, x.pv] (vB awa1) :=
  Contract.ofL Tryz.func5 (by kernel_rfl) (L.done mixed tabOk (n := 84) (ns := [1, 1, 1, 1, 1, 1, 1, 1, 1, 1, 1, 1, 1]) (tr := [.reg [], .reg [(.pv (vB awa)), .none, .none, .none, (.pv (vB val)), .none, (.dec false), .none, .skip, .skip, (.dec true), .none, .skip, .skip, .skip], .auto, .reg [(.pv (vB awa1))]]) (cj h1 (cj (bnot_f h2) (cj (bnot_f h2) (cj h3 (cj (bnot_f h2) (cj (bnot_f h2) (cj (bnot_t h4) (cj (bnot_t h4) (cj (bnot_t h4) (cj (Eq.refl true) (cj (Eq.refl true) (cj (Eq.refl true) (cj h5 True.intro))))))))))))) (by kernel_rfl))
theorem e2 (l : ALaw) (x : ARat) (awa val lon awa1 : Bool) (h1 : Contract prg 10 [] (vB awa)) (h2 : awa = true) (h3 : Contract prg 31 [l.pv] (vB val)) (h4 : val = true) (h5 : Contract prg 11 [x.pv] (vB lon)) (h6 : lon = true) (h7 : Contract prg 10 [] (vB awa1)) : Contract prg 5 [l.pv, x.pv] (vB awa1) :=
  Contract.ofL Tryz.func5 (by kernel_rfl) (L.done mixed tabOk (n := 84) (ns := [1, 1, 1, 1, 1, 1, 1, 1, 1, 1, 1, 1, 1, 1, 1]) (tr := [.reg [], .reg [(.pv (vB awa)), .none, .none, .none, (.pv (vB val)), .none, (.dec false), .none, .none, (.pv (vB lon)), (.dec false), .none, .skip, .skip, .skip, (.dec true)], .auto, .reg [(.pv (vB awa1))]]) (cj h1 (cj (bnot_f h2) (cj (bnot_f h2) (cj h3 (cj (bnot_f h2) (cj (bnot_f h2) (cj (bnot_f h4) (cj (bnot_f h4) (cj h5 (cj (bnot_f h4) (cj h6 (cj h6 (cj h6 (cj h6 (cj h7 True.intro))))))))))))))) (by kernel_rfl))
theorem e3 (l : ALaw) (x : ARat) (awa val lon val1 awa1 : Bool) (h1 : Contract prg 10 [] (vB awa)) (h2 : awa = true) (h3 : Contract prg 31 [l.pv] (vB val)) (h4 : val = true) (h5 : Contract prg 11 [x.pv] (vB lon)) (h6 : lon = false) (h7 : Contract prg 28 [x.pv] (vB val1)) (h8 : val1 = false) (h9 : Contract prg 10 [] (vB awa1)) : Contract prg 5 [l.pv, x.pv] (vB awa1) :=
  Contract.ofL Tryz.func5 (by kernel_rfl) (L.done mixed tabOk (n := 84) (ns := [1, 1, 1, 1, 1, 1, 1, 1, 1, 1, 1, 1, 1, 1, 1, 1, 1]) (tr := [.reg [], .reg [(.pv (vB awa)), .none, .none, .none, (.pv (vB val)), .none, (.dec false), .none, .none, (.pv (vB lon)), (.dec false), .none, .none, (.pv (vB val1)), .none, (.dec false)], .dec true, .reg [(.pv (vB awa1))]]) (cj h1 (cj (bnot_f h2) (cj (bnot_f h2) (cj h3 (cj (bnot_f h2) (cj (bnot_f h2) (cj (bnot_f h4) (cj (bnot_f h4) (cj h5 (cj (bnot_f h4) (cj h6 (cj h6 (cj h7 (cj h6 (cj h6 (cj (bnot_t h8) (cj h9 True.intro))))))))))))))))) (by kernel_rfl))
theorem e4 (l : ALaw) (x : ARat) (awa val lon val1 : Bool) (atV of add atV2 : ARat) (bou : ARange) (der : ALaw) (atV4 : ARat) (dwe : List AArc) (rat con : Bool) (fra : ARat) {r : PV} (h1 : Contract prg 10 [] (vB awa)) (h2 : awa = true) (h3 : Contract prg 31 [l.pv] (vB val)) (h4 : val = true) (h5 : Contract prg 11 [x.pv] (vB lon)) (h6 : lon = false) (h7 : Contract prg 28 [x.pv] (vB val1)) (h8 : val1 = true) (h9 : Contract prg 21 [l.pv, x.pv] (.tup [atV.pv, .nilI])) (h10 : Contract prg 33 [(vI 1)] of.pv) (h11 : Contract prg 32 [x.pv, of.pv] add.pv) (h12 : Contract prg 21 [l.pv, add.pv] (.tup [atV2.pv, .nilI])) (h13 : Contract prg 34 [l.pv] (.tup [bou.pv, .nilI])) (h14 : Contract prg 22 [l.pv] (.tup [der.pv, .nilI])) (h15 : Contract prg 21 [der.pv, x.pv] (.tup [atV4.pv, .nilI])) (h16 : Contract prg 35 [l.pv] (.tup [(lpv AArc.cells dwe), .nilI])) (h17 : Contract prg 17 [atV.pv, atV2.pv] (vB rat)) (h18 : rat = true) (h19 : Contract prg 36 [bou.pv, atV.pv] (vB con)) (h20 : con = true) (h21 : Contract prg 37 [x.pv] fra.pv) (hL : Loop1 dwe 0 l fra atV atV4 r) : Contract prg 5 [l.pv, x.pv] r :=
  Contract.ofL Tryz.func5 (by kernel_rfl) (L.go mixed tabOk (n := 153) (ns := [1, 1, 1, 1, 1, 1, 1, 1, 1, 1, 1, 1, 1, 1, 1, 1, 1, 1, 1, 1, 1, 1, 1, 1, 1, 1, 1, 1, 1, 1, 1, 1, 1, 1, 1, 1, 1, 1, 1, 1, 1, 1, 1, 1, 1, 1, 1]) (tr := [.reg [], .reg [(.pv (vB awa)), .none, .none, .none, (.pv (vB val)), .none, (.dec false), .none, .none, (.pv (vB lon)), (.dec false), .none, .none, (.pv (vB val1)), .none, (.dec false)], .dec false, .reg [.none, .none, (.pv (.tup [atV.pv, .nilI]))], dr 10 1 [.none, .none, (.pv of.pv), (.pv add.pv), (.pv (.tup [atV2.pv, .nilI]))], .reg [.none, (.pv (.tup [bou.pv, .nilI]))], .reg [.none, (.pv (.tup [der.pv, .nilI]))], .reg [.none, .none, (.pv (.tup [atV4.pv, .nilI]))], .reg [.none, (.pv (.tup [(lpv AArc.cells dwe), .nilI]))], .reg [.none, .none, .none, .none, .none, .none, .none, .none, .none, .none, .none, .none, .none, .none, .none, .none, .none, .none, .none, .none, .none, .none, .none, .none, .none, (.pv (vB rat)), .none, .none, .none, .none, .none, (.pv (vB con)), .none, (.dec false)], .dec false, .reg [.none, (.pv fra.pv)], .reg [], .keep [2, 3, 5, 13, 15, 17], .drop [11, 9, 7], .ord [2, 3, 5, 13]]) (cj h1 (cj (bnot_f h2) (cj (bnot_f h2) (cj h3 (cj (bnot_f h2) (cj (bnot_f h2) (cj (bnot_f h4) (cj (bnot_f h4) (cj h5 (cj (bnot_f h4) (cj h6 (cj h6 (cj h7 (cj h6 (cj h6 (cj (bnot_f h8) (cj h9 (cj h10 (cj h11 (cj h12 (cj h13 (cj h14 (cj h15 (cj h16 (cj (Eq.refl false) (cj (Eq.refl false) (cj (Eq.refl false) (cj (Eq.refl false) (cj (Eq.refl false) (cj (Eq.refl false) (cj (Eq.refl false) (cj (Eq.refl false) (cj (Eq.refl false) (cj (Eq.refl false) (cj (Eq.refl false) (cj (Eq.refl false) (cj (Eq.refl false) (cj h17 (cj (Eq.refl false) (cj (bnot_f h18) (cj (bnot_f h18) (cj (bnot_f h18) (cj h19 (cj (bnot_f h18) (cj (bnot_f h18) (cj (bnot_f h20) (cj h21 True.intro))))))))))))))))))))))))))))))))))))))))))))))) (by kernel_rfl) hL)
theorem l10 (dwe : List AArc) (i_17 : Nat) (l : ALaw) (fra atV atV4 : ARat) (v : AArc) (cmp cmp1 : Int) (atV1 : ARat) (rat : Bool) (sig : Int) {r : PV} (h1 : i_17 < dwe.length) (h2 : dwe[i_17]? = some v) (h3 : Contract prg 38 [v.fromV.pv, fra.pv] (vI cmp)) (h4 : cmp ≤ 0) (h5 : Contract prg 38 [fra.pv, v.toV.pv] (vI cmp1)) (h6 : cmp1 < 0) (h7 : Contract prg 21 [l.pv, v.fromV.pv] (.tup [atV1.pv, .nilI])) (h8 : Contract prg 17 [atV1.pv, atV.pv] (vB rat)) (h9 : rat = true) (h10 : Contract prg 39 [atV4.pv] (vI sig)) (h11 : sig = 0) (h12 : (i_17 + 1) < 9223372036854775808) (hL : Loop1 dwe (i_17 + 1) l fra atV atV4 r) : Loop1 dwe i_17 l fra atV atV4 r :=
  L.go mixed tabOk (n := 210) (ns := [1, 1, 3, 1, 1, 1, 1, 1, 3, 1, 1, 1, 1, 1, 1, 1, 3, 1, 1, 1, 1, 1, 1, 1, 1, 1, 1, 1, 1, 1]) (tr := [.auto, .reg [.none, .none, (iI (dwe.length : Int))], .dec true, dr 18 0 [.none, .none, (.row i_17 (AArc.cells v)), .none, .none, .none, (.pv (vI cmp)), .none, .none, .none, .none, .none, (.row i_17 (AArc.cells v)), .none, .none, (.pv (vI cmp1)), .none, (.dec true)], .dec true, dr 12 1 [.none, .none, .none, (.row i_17 (AArc.cells v)), .none, .none, (.pv (.tup [atV1.pv, .nilI]))], .reg [.none, .none, .none, .none, .none, (.pv (vB rat)), .none, .none, .none, .none, (.pv (vI sig)), .none, (.dec false)], .dec false, .reg [.none, (iI (((i_17 + 1) : Nat) : Int))], .keep [2, 3, 5, 13, 15, 17], .drop [18]]) (cj (o_len AArc.cells dwe) (cj (dltN_t h1) (cj (o_at AArc.cells (Eq.refl (((i_17 : Nat) : Int) : Int)) h2) (cj h3 (cj (dle_t h4) (cj (dle_t h4) (cj (dle_t h4) (cj (dle_t h4) (cj (o_at AArc.cells (Eq.refl (((i_17 : Nat) : Int) : Int)) h2) (cj (dle_t h4) (cj (dle_t h4) (cj (dle_t h4) (cj h5 (cj (dle_t h4) (cj (dle_t h4) (cj (dlt_t h6) (cj (o_at AArc.cells (Eq.refl (((i_17 : Nat) : Int) : Int)) h2) (cj h7 (cj (Eq.refl false) (cj (Eq.refl false) (cj (Eq.refl false) (cj h8 (cj (Eq.refl false) (cj (bnot_f h9) (cj (bnot_f h9) (cj h10 (cj (bnot_f h9) (cj (bnot_f h9) (cj (dne_f h11) (cj (bs_addN h12) True.intro)))))))))))))))))))))))))))))) (by kernel_rfl) hL
theorem l11 (dwe : List AArc) (i_17 : Nat) (l : ALaw) (fra atV atV4 : ARat) (v : AArc) (cmp cmp1 : Int) {r : PV} (h1 : i_17 < dwe.length) (h2 : dwe[i_17]? = some v) (h3 : Contract prg 38 [v.fromV.pv, fra.pv] (vI cmp)) (h4 : cmp ≤ 0) (h5 : Contract prg 38 [fra.pv, v.toV.pv] (vI cmp1)) (h6 : 0 ≤ cmp1) (h7 : (i_17 + 1) < 9223372036854775808) (hL : Loop1 dwe (i_17 + 1) l fra atV atV4 r) : Loop1 dwe i_17 l fra atV atV4 r :=
  L.go mixed tabOk (n := 195) (ns := [1, 1, 3, 1, 1, 1, 1, 1, 3, 1, 1, 1, 1, 1, 1, 1, 1]) (tr := [.auto, .reg [.none, .none, (iI (dwe.length : Int))], .dec true, dr 18 0 [.none, .none, (.row i_17 (AArc.cells v)), .none, .none, .none, (.pv (vI cmp)), .none, .none, .none, .none, .none, (.row i_17 (AArc.cells v)), .none, .none, (.pv (vI cmp1)), .none, (.dec true)], .dec false, .reg [.none, (iI (((i_17 + 1) : Nat) : Int))], .keep [2, 3, 5, 13, 15, 17]]) (cj (o_len AArc.cells dwe) (cj (dltN_t h1) (cj (o_at AArc.cells (Eq.refl (((i_17 : Nat) : Int) : Int)) h2) (cj h3 (cj (dle_t h4) (cj (dle_t h4) (cj (dle_t h4) (cj (dle_t h4) (cj (o_at AArc.cells (Eq.refl (((i_17 : Nat) : Int) : Int)) h2) (cj (dle_t h4) (cj (dle_t h4) (cj (dle_t h4) (cj h5 (cj (dle_t h4) (cj (dle_t h4) (cj (dlt_f h6) (cj (bs_addN h7) True.intro))))))))))))))))) (by kernel_rfl) hL
theorem l12 (dwe : List AArc) (i_17 : Nat) (l : ALaw) (fra atV atV4 : ARat) (v : AArc) (cmp : Int) {r : PV} (h1 : i_17 < dwe.length) (h2 : dwe[i_17]? = some v) (h3 : Contract prg 38 [v.fromV.pv, fra.pv] (vI cmp)) (h4 : 0 < cmp) (h5 : (i_17 + 1) < 9223372036854775808) (hL : Loop1 dwe (i_17 + 1) l fra atV atV4 r) : Loop1 dwe i_17 l fra atV atV4 r :=
  L.go mixed tabOk (n := 195) (ns := [1, 1, 3, 1, 1, 1, 1, 1, 1, 1, 1, 1, 1, 1]) (tr := [.auto, .reg [.none, .none, (iI (dwe.length : Int))], .dec true, dr 18 0 [.none, .none, (.row i_17 (AArc.cells v)), .none, .none, .none, (.pv (vI cmp)), .none, .none, .skip, .skip, .skip, .skip, .skip, .skip, .skip, .skip, (.dec false)], .auto, .reg [.none, (iI (((i_17 + 1) : Nat) : Int))], .keep [2, 3, 5, 13, 15, 17]]) (cj (o_len AArc.cells dwe) (cj (dltN_t h1) (cj (o_at AArc.cells (Eq.refl (((i_17 : Nat) : Int) : Int)) h2) (cj h3 (cj (dle_f h4) (cj (dle_f h4) (cj (dle_f h4) (cj (dle_f h4) (cj (dle_f h4) (cj (dle_f h4) (cj (dle_f h4) (cj (dle_f h4) (cj (dle_f h4) (cj (bs_addN h5) True.intro)))))))))))))) (by kernel_rfl) hL
theorem l13 (dwe : List AArc) (i_17 : Nat) (l : ALaw) (fra atV atV4 : ARat) (h1 : dwe.length ≤ i_17) : Loop1 dwe i_17 l fra atV atV4 (vB true) :=
  L.done mixed tabOk (n := 186) (ns := [1, 1]) (tr := [.auto, .reg [.none, .none, (iI (dwe.length : Int))], .dec false, .reg []]) (cj (o_len AArc.cells dwe) (cj (dltN_f h1) True.intro)) (by kernel_rfl)
end linkworklaw52_LawPeriods
end Go.Proofs.YtcgbmnkgmepikaaGreat.Sym.Path
namespace Go.Proofs.YtcgbmnkgmepikaaGreat.Sym
open Go Path CInt
set_option linter.unusedVariables false
namespace C52
theorem LawPeriods (l : ALaw) (x : ARat) (hh : Held l) (hx : x.num.length + x.den.length < 9223372036854775808) : Contract prg 5 [l.pv, x.pv] (vB true) := by
  rcases large l hh with hl | ⟨⟨s1, s2, s3, s4⟩, hl⟩
  · exact linkworklaw52_LawPeriods.e1 l x _ _ _ awake rfl (linkworklaw52_valid.e1 l _ hl rfl) rfl awake
  have hck2 := linkworklaw52_valid.e0 l _ _ hl rfl (CRl.Check l (fitW_le s3 (by omega)))
  by_cases hc : chkLaw l ≠ 0
  · exact linkworklaw52_LawPeriods.e1 l x _ _ _ awake rfl hck2 (by simpa using hc) awake
  have hc : chkLaw l = 0 := Decidable.not_not.1 hc
  rw [hc] at hck2
  have lx := long x hx
  by_cases g1 : 4 < x.num.length + x.den.length
  · exact linkworklaw52_LawPeriods.e2 l x _ _ _ _ awake rfl hck2 rfl lx (decide_eq_true g1) awake
  have fx : x.num.length ≤ 4 ∧ x.den.length ≤ 4 := by omega
  have hv := CRb.Valid x ⟨by omega, by omega⟩
  cases hvx : x.valid with
  | false =>
    rw [hvx] at hv
    exact linkworklaw52_LawPeriods.e3 l x _ _ _ _ _ awake rfl hck2 rfl lx (decide_eq_false g1) hv rfl awake
  | true =>
    rw [hvx] at hv
    have g := good_of hc
    have hlen := g.len
    have hle := g.le
    have f1 : FitW 1048576 l := fitW_le s3 (by omega)
    have hx4 : ht x.val ≤ 4 := ht_of4' fx
    have hat := CLw.At l x hc f1 hvx ⟨by omega, by omega⟩
    have hof := CFr.Of 1 (by unfold InI64; omega)
    have hadd := CFr.Add x (mkR ((1 : Int) : Rat)) ⟨by omega, by omega⟩ (fit_mkR (by decide))
    rw [mkR_val] at hadd
    have h1 := ht_add x.val ((1 : Int) : Rat)
    have h1' : ht ((1 : Int) : Rat) = 1 := by decide
    have fx1 := fit_mkRk (q := x.val + ((1 : Int) : Rat)) (k := 6) (by omega)
    have hat2 := CLw.At l (mkR (x.val + ((1 : Int) : Rat))) hc f1 (mkR_valid _) ⟨by omega, by omega⟩
    rw [mkR_val, atW_frac l (frac_add x.val 1)] at hat2
    have hb := CLw.Bounds l hc f1
    have hd := CLw.Derive l hc (fitW_le s3 (by omega))
    have fd := fitW_derive g (by omega) s3
    have hat4 := CLw.At (deriveW l) x (chk_derive hc) (fitW_le fd (by omega)) hvx ⟨by omega, by omega⟩
    have hdw := CLw.Dwells l hc f1
    have hta : ht (atW l x.val) ≤ 17179869184 := by
      rw [atW_eq]
      have b1 := ht_frac hx4
      have b2 := ht_brkW s3 (by omega) (pieceL (vals l.breaks) (frac x.val))
      have b3 := ht_sub (frac x.val) (brkW l (pieceL (vals l.breaks) (frac x.val)))
      have b4 := ht_eval (pcW l (pieceL (vals l.breaks) (frac x.val))) (frac x.val - brkW l (pieceL (vals l.breaks) (frac x.val))) 100 (fun y hy => Nat.le_trans (fl_pcW s3 (by omega) _ y hy) (by omega)) (by omega)
      have b5 : (pcW l (pieceL (vals l.breaks) (frac x.val))).length * (2 * 100 + 1) ≤ 9 * 201 := Nat.mul_le_mul_right _ (pcW_len g _)
      omega
    have hr := ratR (atW l x.val) (by omega)
    obtain ⟨b1, b2⟩ := boundsF_fit g f1 l.pieces.length 0 (0, 0) (by decide) (by decide)
    have hcon := CIv.Contains (mkG (boundsW l).1 (boundsW l).2) (atW l x.val) (fit_mkG (Nat.le_trans b1 (by omega)) (Nat.le_trans b2 (by omega))) (by omega)
    rw [loG_mk (bounds_le g), hiG_mk (bounds_le g), decide_eq_true (at_in g x.val)] at hcon
    have hfr := CRl.Frac x ⟨by omega, by omega⟩
    have hfrh := ht_frac hx4
    refine linkworklaw52_LawPeriods.e4 l x _ _ _ _ _ _ _ _ _ _ _ _ _ _ _ awake rfl hck2 rfl lx (decide_eq_false g1) hv rfl hat hof hadd hat2 hb hd hat4 hdw hr rfl hcon rfl hfr ?_
    obtain ⟨p1, p2⟩ := dwellsF_props l 4 s3 (by omega) l.pieces.length 0 [] (fun p hp => by cases hp)
    have p1 : (dwellsW l).length ≤ 0 + l.pieces.length := p1
    have hflat := dwells_flat g l.pieces.length 0 [] (by omega) (fun p hp => by cases hp) (by rw [openB_zero]; intro h; cases h)
    have hd0 : ∀ q, q = (0 : Rat) → Contract prg 39 [(mkR q).pv] (vI 0) := by
      intro q hq
      subst hq
      exact QF.Sign 0 (by decide)
    have loop : ∀ (j t : Nat), (dwellsW l).length - t = j → linkworklaw52_LawPeriods.Loop1 ((dwellsW l).map arcR) t l (mkR (frac x.val)) (mkR (atW l x.val)) (mkR (atW (deriveW l) x.val)) (vB true) := by
      intro j
      induction j with
      | zero => intro t hj; exact linkworklaw52_LawPeriods.l13 _ t l _ _ _ (by rw [List.length_map]; omega)
      | succ j ih =>
        intro t hj
        obtain ⟨p, hp⟩ : ∃ p, (dwellsW l)[t]? = some p := ⟨_, List.getElem?_eq_getElem (by omega)⟩
        have hm : ((dwellsW l).map arcR)[t]? = some (arcR p) := by rw [List.getElem?_map, hp]; rfl
        have hpm := List.mem_of_getElem? hp
        obtain ⟨q1, q2⟩ := p2 p hpm
        obtain ⟨c, hf⟩ := hflat p hpm
        have c1 := QF.Cmp p.1 (frac x.val) (by omega) (by omega)
        have c2 := QF.Cmp (frac x.val) p.2 (by omega) (by omega)
        have hlt : t < ((dwellsW l).map arcR).length := by rw [List.length_map]; omega
        by_cases h1 : p.1 ≤ frac x.val
        · by_cases h2 : frac x.val < p.2
          · have a1 := flat_atW hf h1 h2
            have a0 := flat_deriveW hf h1 h2
            have fp : frac p.1 = p.1 := frac_id hf.1 (by have := frac_lt x.val; grind)
            have a2 := flat_atW hf (x := p.1) (by rw [fp]; exact Rat.le_refl) (by rw [fp]; grind)
            have fit := fit_mkRk q1
            have at5 := CLw.At l (mkR p.1) hc f1 (mkR_valid _) ⟨by omega, by omega⟩
            rw [mkR_val, a2, ← a1] at at5
            exact linkworklaw52_LawPeriods.l10 _ t l _ _ _ _ _ _ _ _ _ hlt hm c1 (cmpR_le.2 h1) c2 (cmpR_lt.2 h2) at5 hr rfl (hd0 _ a0) rfl (by omega) (ih (t + 1) (by omega))
          · exact linkworklaw52_LawPeriods.l11 _ t l _ _ _ _ _ _ hlt hm c1 (cmpR_le.2 h1) c2 (cmpR_ge.2 (by grind)) (by omega) (ih (t + 1) (by omega))
        · exact linkworklaw52_LawPeriods.l12 _ t l _ _ _ _ _ hlt hm c1 (cmpR_gt.2 (by grind)) (by omega) (ih (t + 1) (by omega))
    exact loop _ 0 rfl
end C52
end Go.Proofs.YtcgbmnkgmepikaaGreat.Sym
namespace Go.Proofs.YtcgbmnkgmepikaaGreat.Sym
open Go Go.RowKit Go.ChangeShapes Go.WideShapes Go.ChangeAt
set_option linter.unusedVariables false
namespace RowPeriods
theorem own : ownKnob Tryz.prog.godebug = none := by kernel_rfl
theorem laid : laidOutB prg = true := by kernel_rfl
theorem okArg {P : Program} {W : World} {base : Nat} {ps : Array TypeId} {args : Array Value} (hval : ∀ (j : Nat) t v, ps[j]? = some t → args[j]? = some v → Value.okWide P W .any base t v) (j : Nat) {t : TypeId} {v : Value} (h1 : ps[j]? = some t) (h2 : args[j]? = some v) : Value.okWide P W .any base t v := hval j t v h1 h2
set_option maxRecDepth 100000 in
theorem contract (H : Type) (enc : TypeId × Value → H) (W : World) (base : Nat) (args : Array Value) (ds gs : List (DataW H)) (before : List MemPlace)
    (hval : ∀ (j : Nat) t v, Tryz.f5.params[j]? = some t → args[j]? = some v → Value.okWide Tryz.prog W .any base t v)
    (hW : DataW.Whole enc Tryz.prog Tryz.f5.params.toList Rows.lawPeriodsSpec.vars false W args.toList ds gs before)
    (hz : (DataW.weightsEach Tryz.prog (Tryz.f5.params.toList ++ Rows.lawPeriodsSpec.plain.varTypes Tryz.prog) (ds ++ gs)).all (· ≤ reachBytes) = true) :
    Calls Tryz.prog 5 args W fun e W' => ∃ v, e = .returned v ∧ Rows.lawPeriodsSpec.post enc Tryz.prog Tryz.f5 false true false false W args v W' := by
  have hW' := hW
  obtain ⟨p, q, hA, hV, rfl, hfz, hnd⟩ := hW
  have hp : Tryz.f5.params = #[47, 24] := by kernel_rfl
  rw [hp] at hA hval hz
  obtain ⟨v0, vs0, d0, ds0, p0, q0, hargs, rfl, rfl, h0, r0⟩ := trodAll_cons hA
  obtain ⟨v1, vs1, d1, ds1, p1, q1, rfl, rfl, rfl, h1, r1⟩ := trodAll_cons r0
  obtain ⟨rfl, rfl, rfl⟩ := trodAll_nil r1
  obtain rfl : args = #[v0, v1] := by cases args; simp_all
  obtain ⟨rfl, rfl⟩ := trodVars_none hV
  obtain ⟨n0, hn0⟩ := h0
  have hw0 : ∀ k ∈ d0.weights prg 47, k ≤ reachBytes := by
    intro k hk
    have := List.all_eq_true.1 hz k (DataW.weights_mem_each (j := 0) rfl rfl k hk)
    simpa using this
  obtain ⟨x0, hx0, b0⟩ := opens_ALaw enc W 0 (fun _ => true) true n0 _ _ hn0 hw0
  obtain ⟨fs0, hu0, _⟩ := flds_spec (show fldsOf (prg.underlying 47) = some [(29, 0), (45, 1)] by kernel_rfl)
  have hv0 : Value.okWide Tryz.prog W .any base 47 v0 := okArg hval 0 (by simp) (by simp)
  have hrd0 : Rd (Old W) W x0.pv v0 := rd_struct (P := Tryz.prog) (cs := x0.cells) hu0 hv0 hx0
  obtain ⟨n1, hn1⟩ := h1
  have hw1 : ∀ k ∈ d1.weights prg 24, k ≤ reachBytes := by
    intro k hk
    have := List.all_eq_true.1 hz k (DataW.weights_mem_each (j := 1) rfl rfl k hk)
    simpa using this
  obtain ⟨x1, hx1, b1⟩ := opens_ARat enc W 0 (fun _ => true) true n1 _ _ hn1 hw1
  obtain ⟨fs1, hu1, _⟩ := flds_spec (show fldsOf (prg.underlying 24) = some [(4, 0), (22, 1), (22, 2)] by kernel_rfl)
  have hv1 : Value.okWide Tryz.prog W .any base 24 v1 := okArg hval 1 (by simp) (by simp)
  have hrd1 : Rd (Old W) W x1.pv v1 := rd_struct (P := Tryz.prog) (cs := x1.cells) hu1 hv1 hx1
  have hc := C52.LawPeriods x0 x1 b0 (lenR_sum b1)
  refine (hc.2 (Old W) W (fun _ => none) #[v0, v1] (fun b hb => hb) ⟨(fun r sc h => by cases h), (fun r r' b h => by obtain ⟨_, h⟩ := h)⟩ rfl ?_).mono ?_
  · intro j e v he hv
    cases j with
    | zero => simp at he hv; subst he hv; exact hrd0
    | succ j =>
      cases j with
      | zero => simp at he hv; subst he hv; exact hrd1
      | succ j => simp at he
  · intro e W' ⟨v, β', he, _, hk, _, hv, _⟩
    subst he
    have hv : Rd _ W' (vB true) v := hv
    cases hv
    have hk' : Keeps (fun _ => False) W W' := ⟨hk.os, hk.tape, hk.output, hk.size, fun k h1 _ => hk.block k h1 (fun ⟨y, hy, _⟩ => by obtain ⟨_, hy⟩ := hy), hk.shape⟩
    refine ⟨_, rfl, post_true (tb := 4) hW' hk' rfl (by kernel_rfl) (by kernel_rfl) rfl rfl rfl laid ?_⟩
    rw [hp]
    intro t ht
    have : t = 47 ∨ t = 24 := by simpa using ht
    rcases this with rfl | rfl
    all_goals exact ⟨by kernel_rfl, of_decide_eq_true (by kernel_rfl)⟩
set_option maxRecDepth 100000 in
theorem lifted (os : Os) (started : os.Started) (H : Type) (enc : TypeId × Value → H) :
    ReturnsInHanded {} Tryz.checked os 5 .any (Rows.lawPeriodsSpec.pre6 enc Tryz.prog Tryz.f5 Rows.lawPeriodsRow.domain false) (Rows.lawPeriodsSpec.post enc Tryz.prog Tryz.f5 false true false false) := by
  refine returnsInHanded_of_change_sized (C := Tryz.checked) own started (by kernel_rfl) Tryz.func5
    (ChangeSpec.witness6 (enc := enc) (C := Tryz.checked) false ⟨#[], #[.agg #[.slice none 0 0, .slice none 0 0], .agg #[.bool false, .slice none 0 0, .slice none 0 0]], []⟩ 8 (by kernel_rfl) (by kernel_rfl) (by kernel_rfl) (by kernel_rfl)) ?_
  intro W base args ds gs before hval hW _ hz _
  exact contract H enc W base args ds gs before hval hW hz
theorem proved : Rows.LawPeriodsSaid :=
  OpenClaim.holds_of_wide 5 Tryz.f5 rfl rfl rfl rfl rfl rfl rfl ⟨rfl, rfl, rfl, rfl, rfl⟩ rfl rfl rfl rfl rfl (by kernel_rfl) Tryz.func5 (by kernel_rfl)
    (of_decide_eq_true (by kernel_rfl)) (by unfold Func.isWrapper; first | (rw [if_pos (by decide +kernel)]; kernel_rfl) | (rw [if_neg (by decide +kernel)]; exact ⟨rfl, rfl⟩))
    (fun os started H enc _ => lifted os started H enc)
end RowPeriods
end Go.Proofs.YtcgbmnkgmepikaaGreat.Sym
