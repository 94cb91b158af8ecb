import Derived.Test.YtcgbmnkgmepikaaGreatM3
import Derived.Test.YtcgbmnkgmepikaaGreatM6
import Derived.Test.YtcgbmnkgmepikaaGreatObs
import Derived.Deep.Slices
import Derived.WideKeyArgs
import Derived.RowKit3
import Derived.WalkKit
import Derived.ProofKit
import Derived.OpenShut
import Derived.SizedLaws
import Derived.Test.YtcgbmnkgmepikaaGreatRows
import Derived.JoinedCond

/-
  PLawRises: paths through functions (printed by a program of ours, wip/gen/gen2.py).
-/
namespace Go.Proofs.YtcgbmnkgmepikaaGreat.Sym.Path
open Go
set_option maxRecDepth 20000
set_option linter.unusedVariables false

namespace linkworklaw52_LawRises
@[reducible] noncomputable def fn : Func := Tryz.f3
noncomputable def atK1 : List Itm := focus [0, 2, 0, 0, 2, 1, 2, 0, 2, 0, 2, 0, 0, 2, 1, 2, 0, 0, 2, 1, 2, 0, 2, 0, 2, 0, 0, 2, 1, 2, 0, 0, 2, 0, 0] [.code (bodyOf fn)]
def inv1 (p_3 : List ARat) (k_11 : Nat) (x : AEnds) (site_7 site_9 : ARat) : St := ⟨[(1, (.ptr 1 0)), (3, (.pv (polyPV p_3))), (7, (.ptr 7 0)), (9, (.ptr 9 0)), (11, (eI (k_11 : Int)))], [(1, (.lit [(eB x.length.neg), (.pv (wordsPV x.length.num)), (.pv (wordsPV x.length.den)), (eB x.fromV.neg), (.pv (wordsPV x.fromV.num)), (.pv (wordsPV x.fromV.den)), (eB x.toV.neg), (.pv (wordsPV x.toV.num)), (.pv (wordsPV x.toV.den)), (eI x.degree)])), (7, (.lit [(eB site_7.neg), (.pv (wordsPV site_7.num)), (.pv (wordsPV site_7.den))])), (9, (.lit [(eB site_9.neg), (.pv (wordsPV site_9.num)), (.pv (wordsPV site_9.den))]))]⟩
@[reducible] noncomputable def Loop1 (p_3 : List ARat) (k_11 : Nat) (x : AEnds) (site_7 site_9 : ARat) (r : PV) : Prop := L prg fn atK1 (inv1 p_3 k_11 x site_7 site_9) r
theorem e0 (x : AEnds) (awa awa1 : Bool) (h1 : Contract prg 10 [] (vB awa)) (h2 : awa = false) (h3 : Contract prg 10 [] (vB awa1)) : Contract prg 3 [x.pv] (vB awa1) :=
  Contract.ofL Tryz.func3 (by kernel_rfl) (L.done mixed tabOk (n := 84) (ns := [1, 1, 1, 1, 1, 1, 1, 1, 1, 1, 1, 1]) (tr := [.reg [], .reg [(.pv (vB awa)), .none, .none, .skip, .skip, .skip, (.dec true), .none, .skip, .skip, .skip, .none, .none, .skip, .skip, .skip], .auto, .reg [(.pv (vB awa1))]]) (cj h1 (cj (bnot_t h2) (cj (bnot_t h2) (cj (bnot_t h2) (cj (bnot_t h2) (cj (Eq.refl true) (cj (Eq.refl true) (cj (Eq.refl true) (cj (Eq.refl true) (cj (Eq.refl true) (cj (Eq.refl true) (cj h3 True.intro)))))))))))) (by kernel_rfl))
theorem e1 (x : AEnds) (awa lon awa1 : Bool) (h1 : Contract prg 10 [] (vB awa)) (h2 : awa = true) (h3 : Contract prg 11 [x.length.pv] (vB lon)) (h4 : lon = true) (h5 : Contract prg 10 [] (vB awa1)) : Contract prg 3 [x.pv] (vB awa1) :=
  Contract.ofL Tryz.func3 (by kernel_rfl) (L.done mixed tabOk (n := 84) (ns := [1, 1, 1, 1, 1, 1, 1, 1, 1, 1, 1, 1, 1, 1]) (tr := [.reg [], .reg [(.pv (vB awa)), .none, .none, .none, .none, (.pv (vB lon)), (.dec false), .none, .skip, .skip, .skip, (.dec true), .none, .skip, .skip, .skip], .auto, .reg [(.pv (vB awa1))]]) (cj h1 (cj (bnot_f h2) (cj (bnot_f h2) (cj (bnot_f h2) (cj h3 (cj (bnot_f h2) (cj h4 (cj h4 (cj h4 (cj h4 (cj (Eq.refl true) (cj (Eq.refl true) (cj (Eq.refl true) (cj h5 True.intro)))))))))))))) (by kernel_rfl))
theorem e2 (x : AEnds) (awa lon lon1 awa1 : Bool) (h1 : Contract prg 10 [] (vB awa)) (h2 : awa = true) (h3 : Contract prg 11 [x.length.pv] (vB lon)) (h4 : lon = false) (h5 : Contract prg 11 [x.fromV.pv] (vB lon1)) (h6 : lon1 = true) (h7 : Contract prg 10 [] (vB awa1)) : Contract prg 3 [x.pv] (vB awa1) :=
  Contract.ofL Tryz.func3 (by kernel_rfl) (L.done mixed tabOk (n := 84) (ns := [1, 1, 1, 1, 1, 1, 1, 1, 1, 1, 1, 1, 1, 1, 1, 1]) (tr := [.reg [], .reg [(.pv (vB awa)), .none, .none, .none, .none, (.pv (vB lon)), (.dec false), .none, .none, .none, (.pv (vB lon1)), (.dec false), .none, .skip, .skip, .skip, (.dec true)], .auto, .reg [(.pv (vB awa1))]]) (cj h1 (cj (bnot_f h2) (cj (bnot_f h2) (cj (bnot_f h2) (cj h3 (cj (bnot_f h2) (cj h4 (cj h4 (cj h4 (cj h5 (cj h4 (cj h6 (cj h6 (cj h6 (cj h6 (cj h7 True.intro)))))))))))))))) (by kernel_rfl))
theorem e3 (x : AEnds) (awa lon lon1 lon2 awa1 : Bool) (h1 : Contract prg 10 [] (vB awa)) (h2 : awa = true) (h3 : Contract prg 11 [x.length.pv] (vB lon)) (h4 : lon = false) (h5 : Contract prg 11 [x.fromV.pv] (vB lon1)) (h6 : lon1 = false) (h7 : Contract prg 11 [x.toV.pv] (vB lon2)) (h8 : lon2 = true) (h9 : Contract prg 10 [] (vB awa1)) : Contract prg 3 [x.pv] (vB awa1) :=
  Contract.ofL Tryz.func3 (by kernel_rfl) (L.done mixed tabOk (n := 84) (ns := [1, 1, 1, 1, 1, 1, 1, 1, 1, 1, 1, 1, 1, 1, 1, 1, 1, 1]) (tr := [.reg [], .reg [(.pv (vB awa)), .none, .none, .none, .none, (.pv (vB lon)), (.dec false), .none, .none, .none, (.pv (vB lon1)), (.dec false), .none, .none, .none, (.pv (vB lon2)), (.dec false)], .dec true, .reg [(.pv (vB awa1))]]) (cj h1 (cj (bnot_f h2) (cj (bnot_f h2) (cj (bnot_f h2) (cj h3 (cj (bnot_f h2) (cj h4 (cj h4 (cj h4 (cj h5 (cj h4 (cj h6 (cj h6 (cj h6 (cj h7 (cj h6 (cj h8 (cj h9 True.intro)))))))))))))))))) (by kernel_rfl))
theorem e4 (x : AEnds) (awa lon lon1 lon2 : Bool) (ris : List ARat) (ris1 : Option Int) (ris2 : List ARat) (ris3 num : Int) (sam : Bool) (h1 : Contract prg 10 [] (vB awa)) (h2 : awa = true) (h3 : Contract prg 11 [x.length.pv] (vB lon)) (h4 : lon = false) (h5 : Contract prg 11 [x.fromV.pv] (vB lon1)) (h6 : lon1 = false) (h7 : Contract prg 11 [x.toV.pv] (vB lon2)) (h8 : lon2 = false) (h9 : Contract prg 12 [x.length.pv, x.fromV.pv, x.toV.pv, (vI x.degree)] (.tup [(polyPV ris), (errPV ris1)])) (h10 : Contract prg 13 [x.length.pv, x.fromV.pv, x.toV.pv, (vI x.degree)] (.tup [(polyPV ris2), (vI ris3)])) (h11 : Contract prg 14 [(errPV ris1)] (vI num)) (h12 : num = ris3) (h13 : Contract prg 15 [(polyPV ris), (polyPV ris2)] (vB sam)) (h14 : sam = true) (h15 : ris3 ≠ 0) : Contract prg 3 [x.pv] (vB true) :=
  Contract.ofL Tryz.func3 (by kernel_rfl) (L.done mixed tabOk (n := 126) (ns := [1, 1, 1, 1, 1, 1, 1, 1, 1, 1, 1, 1, 1, 1, 1, 1, 1, 1, 1, 1, 1, 1, 1, 1, 1, 1, 1, 1]) (tr := [.reg [], .reg [(.pv (vB awa)), .none, .none, .none, .none, (.pv (vB lon)), (.dec false), .none, .none, .none, (.pv (vB lon1)), (.dec false), .none, .none, .none, (.pv (vB lon2)), (.dec false)], .dec false, .reg [.none, .none, .none, .none, .none, .none, .none, .none, (.pv (.tup [(polyPV ris), (errPV ris1)]))], .reg [.none, .none, .none, .none, .none, .none, .none, .none, (.pv (.tup [(polyPV ris2), (vI ris3)]))], .reg [.none, (.pv (vI num)), .none, .none, .none, .none, .none, (.pv (vB sam)), .none, (.dec false)], .dec false, .reg [], .dec true, .reg []]) (cj h1 (cj (bnot_f h2) (cj (bnot_f h2) (cj (bnot_f h2) (cj h3 (cj (bnot_f h2) (cj h4 (cj h4 (cj h4 (cj h5 (cj h4 (cj h6 (cj h6 (cj h6 (cj h7 (cj h6 (cj h8 (cj h9 (cj h10 (cj h11 (cj (dne_f h12) (cj (dne_f h12) (cj (dne_f h12) (cj h13 (cj (dne_f h12) (cj (dne_f h12) (cj (bnot_f h14) (cj (dne_t h15) True.intro)))))))))))))))))))))))))))) (by kernel_rfl))
theorem e5 (x : AEnds) (awa lon lon1 lon2 : Bool) (ris : List ARat) (ris1 : Option Int) (ris2 : List ARat) (ris3 num : Int) (sam : Bool) (eva eva2 : ARat) (rat rat1 : Bool) {r : PV} (h1 : Contract prg 10 [] (vB awa)) (h2 : awa = true) (h3 : Contract prg 11 [x.length.pv] (vB lon)) (h4 : lon = false) (h5 : Contract prg 11 [x.fromV.pv] (vB lon1)) (h6 : lon1 = false) (h7 : Contract prg 11 [x.toV.pv] (vB lon2)) (h8 : lon2 = false) (h9 : Contract prg 12 [x.length.pv, x.fromV.pv, x.toV.pv, (vI x.degree)] (.tup [(polyPV ris), (errPV ris1)])) (h10 : Contract prg 13 [x.length.pv, x.fromV.pv, x.toV.pv, (vI x.degree)] (.tup [(polyPV ris2), (vI ris3)])) (h11 : Contract prg 14 [(errPV ris1)] (vI num)) (h12 : num = ris3) (h13 : Contract prg 15 [(polyPV ris), (polyPV ris2)] (vB sam)) (h14 : sam = true) (h15 : ris3 = 0) (h16 : Contract prg 16 [(polyPV ris), (⟨false, [], []⟩ : ARat).pv] (.tup [eva.pv, .nilI])) (h17 : Contract prg 16 [(polyPV ris), x.length.pv] (.tup [eva2.pv, .nilI])) (h18 : Contract prg 17 [eva.pv, x.fromV.pv] (vB rat)) (h19 : rat = true) (h20 : Contract prg 17 [eva2.pv, x.toV.pv] (vB rat1)) (h21 : rat1 = true) (hL : Loop1 ris 1 x eva eva2 r) : Contract prg 3 [x.pv] r :=
  Contract.ofL Tryz.func3 (by kernel_rfl) (L.go mixed tabOk (n := 165) (ns := [1, 1, 1, 1, 1, 1, 1, 1, 1, 1, 1, 1, 1, 1, 1, 1, 1, 1, 1, 1, 1, 1, 1, 1, 1, 1, 1, 1, 1, 1, 1, 1, 1, 1, 1, 1, 1, 1, 1, 1, 1, 1, 1, 1, 1, 1]) (tr := [.reg [], .reg [(.pv (vB awa)), .none, .none, .none, .none, (.pv (vB lon)), (.dec false), .none, .none, .none, (.pv (vB lon1)), (.dec false), .none, .none, .none, (.pv (vB lon2)), (.dec false)], .dec false, .reg [.none, .none, .none, .none, .none, .none, .none, .none, (.pv (.tup [(polyPV ris), (errPV ris1)]))], .reg [.none, .none, .none, .none, .none, .none, .none, .none, (.pv (.tup [(polyPV ris2), (vI ris3)]))], .reg [.none, (.pv (vI num)), .none, .none, .none, .none, .none, (.pv (vB sam)), .none, (.dec false)], .dec false, .reg [], .dec false, .reg [.none, .none, (.pv (.tup [eva.pv, .nilI]))], .reg [.none, .none, .none, (.pv (.tup [eva2.pv, .nilI]))], .reg [.none, .none, .none, .none, .none, .none, .none, .none, .none, .none, (.pv (vB rat)), .none, .none, .none, .none, .none, .none, (.pv (vB rat1)), .none, (.dec false)], .dec false, .reg [], .keep [1, 3, 7, 9, 11], .ord [1, 7, 9]]) (cj h1 (cj (bnot_f h2) (cj (bnot_f h2) (cj (bnot_f h2) (cj h3 (cj (bnot_f h2) (cj h4 (cj h4 (cj h4 (cj h5 (cj h4 (cj h6 (cj h6 (cj h6 (cj h7 (cj h6 (cj h8 (cj h9 (cj h10 (cj h11 (cj (dne_f h12) (cj (dne_f h12) (cj (dne_f h12) (cj h13 (cj (dne_f h12) (cj (dne_f h12) (cj (bnot_f h14) (cj (dne_f h15) (cj h16 (cj h17 (cj (Eq.refl false) (cj (Eq.refl false) (cj (Eq.refl false) (cj (Eq.refl false) (cj (Eq.refl false) (cj (Eq.refl false) (cj h18 (cj (Eq.refl false) (cj (bnot_f h19) (cj (bnot_f h19) (cj (bnot_f h19) (cj (bnot_f h19) (cj h20 (cj (bnot_f h19) (cj (bnot_f h19) (cj (bnot_f h21) True.intro)))))))))))))))))))))))))))))))))))))))))))))) (by kernel_rfl) hL)
theorem l10 (p_3 : List ARat) (k_11 : Nat) (x : AEnds) (site_7 site_9 : ARat) (der : List ARat) (eva eva2 : ARat) (sig sig1 : Int) {r : PV} (h1 : (2 * k_11) < 9223372036854775808) (h2 : (((2 * k_11) : Nat) : Int) < x.degree) (h3 : Contract prg 18 [(polyPV p_3)] (.tup [(polyPV der), .nilI])) (h4 : Contract prg 16 [(polyPV der), (⟨false, [], []⟩ : ARat).pv] (.tup [eva.pv, .nilI])) (h5 : Contract prg 16 [(polyPV der), x.length.pv] (.tup [eva2.pv, .nilI])) (h6 : Contract prg 19 [eva.pv] (vI sig)) (h7 : sig = 0) (h8 : Contract prg 19 [eva2.pv] (vI sig1)) (h9 : sig1 = 0) (h10 : (k_11 + 1) < 9223372036854775808) (hL : Loop1 der (k_11 + 1) x eva eva2 r) : Loop1 p_3 k_11 x site_7 site_9 r :=
  L.go mixed tabOk (n := 240) (ns := [1, 1, 1, 1, 1, 1, 1, 1, 1, 1, 1, 1, 1, 1, 1, 1, 1, 1]) (tr := [.auto, .reg [.none, (iI (((2 * k_11) : Nat) : Int))], .dec true, .reg [.none, (.pv (.tup [(polyPV der), .nilI]))], .reg [], .auto, .reg [.none, .none, (.pv (.tup [eva.pv, .nilI]))], .reg [.none, .none, .none, (.pv (.tup [eva2.pv, .nilI]))], .reg [.none, .none, .none, .none, .none, .none, .none, .none, (.pv (vI sig)), .none, .none, .none, .none, (.pv (vI sig1)), .none, (.dec false)], .dec false, .reg [.none, (iI (((k_11 + 1) : Nat) : Int))], .keep [1, 3, 7, 9, 11]]) (cj (bs_mulN h1) (cj (dlt_t h2) (cj h3 (cj h4 (cj h5 (cj (Eq.refl false) (cj (Eq.refl false) (cj (Eq.refl false) (cj (Eq.refl false) (cj h6 (cj (Eq.refl false) (cj (dne_f h7) (cj (dne_f h7) (cj h8 (cj (dne_f h7) (cj (dne_f h7) (cj (dne_f h9) (cj (bs_addN h10) True.intro)))))))))))))))))) (by kernel_rfl) hL
theorem l11 (p_3 : List ARat) (k_11 : Nat) (x : AEnds) (site_7 site_9 : ARat) (h1 : (2 * k_11) < 9223372036854775808) (h2 : x.degree ≤ (((2 * k_11) : Nat) : Int)) : Loop1 p_3 k_11 x site_7 site_9 (vB true) :=
  L.done mixed tabOk (n := 198) (ns := [1, 1]) (tr := [.auto, .reg [.none, (iI (((2 * k_11) : Nat) : Int))], .dec false, .reg []]) (cj (bs_mulN h1) (cj (dlt_f h2) True.intro)) (by kernel_rfl)
end linkworklaw52_LawRises

end Go.Proofs.YtcgbmnkgmepikaaGreat.Sym.Path


/-
  LawRises: the statement on rises: it returns true.
-/
namespace Go.Proofs.YtcgbmnkgmepikaaGreat.Sym
open Go Path CInt
set_option linter.unusedVariables false

namespace C52

theorem Same5 (p : List ARat) (hl : p.length < 9223372036854775807) (hf : FitP 1073741824 p) : Contract prg 15 [polyPV p, polyPV p] (vB true) := by
  have h := CBa.Rats p p hl (fun a ha => ⟨by have := (hf a ha).1; omega, by have := (hf a ha).2; omega⟩)
  rw [eqRs_self] at h
  exact linkworkref05_Same.e0 p p _ h

theorem ht_of4 {a : ARat} (h : a.num.length ≤ 4 ∧ a.den.length ≤ 4) : ht a.val ≤ 4 := ht_fit h.1 h.2 (by omega)

/-- One step of the loop over the derivatives: of a polynomial whose derivative is 0 at both ends. -/
theorem rises_step (x : AEnds) (q : List Rat) (k : Nat) (s1 s2 : ARat) (hq : q.length ≤ 65) (hf : Fl 1048600 q) (hlen : x.length.num.length ≤ 4 ∧ x.length.den.length ≤ 4)
    (h0 : evalL (derI 1 (q.drop 1)) 0 = 0) (h1 : evalL (derI 1 (q.drop 1)) x.length.val = 0) (hk : ((2 * k : Nat) : Int) < x.degree) (hk2 : k < 1000)
    (hL : linkworklaw52_LawRises.Loop1 ((deriveL q).map mkR) (k + 1) x (mkR 0) (mkR 0) (vB true)) :
    linkworklaw52_LawRises.Loop1 ((trimL q).map mkR) k x s1 s2 (vB true) := by
  have hft : Fl 1048600 (trimL q) := fl_trimL hf
  have hp1 := fit_mapk hft
  have hd := CPo.Derive ((trimL q).map mkR) (chk_trimL hq) (fun a ha => ⟨by have := (hp1 a ha).1; omega, by have := (hp1 a ha).2; omega⟩)
  rw [vals_mkR, deriveL_trimL] at hd
  have hfd : Fl 1048602 (deriveL q) := fl_deriveL hq hf
  have hp2 := fit_mapk hfd
  have hcd : chk ((deriveL q).map mkR) = 0 := chk_map (lastZ_deriveL q) (by have := len_deriveL q; omega)
  have e1 := CPo.Eval ((deriveL q).map mkR) ⟨false, [], []⟩ hcd (fun a ha => ⟨by have := (hp2 a ha).1; omega, by have := (hp2 a ha).2; omega⟩) ⟨by simp, by simp⟩
  rw [vals_mkR, val_nil (a := ⟨false, [], []⟩) rfl, evalL_deriveL, h0] at e1
  have e2 := CPo.Eval ((deriveL q).map mkR) x.length hcd (fun a ha => ⟨by have := (hp2 a ha).1; omega, by have := (hp2 a ha).2; omega⟩) ⟨by omega, by omega⟩
  rw [vals_mkR, evalL_deriveL, h1] at e2
  have sg := CRb.Sign (mkR 0) (by constructor <;> decide)
  rw [mkR_val] at sg
  exact linkworklaw52_LawRises.l10 _ k x _ _ _ _ _ _ _ (by omega) hk hd e1 e2 sg (cmpR_eq.2 rfl) sg (cmpR_eq.2 rfl) (by omega) hL

theorem LawRises (x : AEnds) (b1 : x.length.num.length + x.length.den.length < 9223372036854775808) (b2 : x.fromV.num.length + x.fromV.den.length < 9223372036854775808) (b3 : x.toV.num.length + x.toV.den.length < 9223372036854775808) :
    Contract prg 3 [x.pv] (vB true) := by
  have l1 := long x.length b1
  have l2 := long x.fromV b2
  have l3 := long x.toV b3
  by_cases g1 : 4 < x.length.num.length + x.length.den.length
  · exact linkworklaw52_LawRises.e1 x _ _ _ awake rfl l1 (decide_eq_true g1) awake
  by_cases g2 : 4 < x.fromV.num.length + x.fromV.den.length
  · exact linkworklaw52_LawRises.e2 x _ _ _ _ awake rfl l1 (decide_eq_false g1) l2 (decide_eq_true g2) awake
  by_cases g3 : 4 < x.toV.num.length + x.toV.den.length
  · exact linkworklaw52_LawRises.e3 x _ _ _ _ _ awake rfl l1 (decide_eq_false g1) l2 (decide_eq_false g2) l3 (decide_eq_true g3) awake
  have f1 : x.length.num.length ≤ 4 ∧ x.length.den.length ≤ 4 := by omega
  have f2 : x.fromV.num.length ≤ 4 ∧ x.fromV.den.length ≤ 4 := by omega
  have f3 : x.toV.num.length ≤ 4 ∧ x.toV.den.length ≤ 4 := by omega
  by_cases hc : riseC x.length x.fromV x.toV x.degree = 0
  · have r1 := CLw.Rise x.length x.fromV x.toV x.degree f1 f2 f3 hc
    have r2 := CRl.Rise x.length x.fromV x.toV x.degree f1 f2 f3 hc
    have hql := riseQ_len x.length.val x.fromV.val x.toV.val x.degree
    have hqf : Fl 1048600 (riseQ x.length.val x.fromV.val x.toV.val x.degree) := fun y hy => Nat.le_trans (fl_riseQ (ht_of4 f1) (ht_of4 f2) (ht_of4 f3) y hy) (by omega)
    have e : riseL x.length.val x.fromV.val x.toV.val x.degree = trimL (riseQ x.length.val x.fromV.val x.toV.val x.degree) := rfl
    rw [e] at r1 r2
    have hp1 := fit_mapk (fl_trimL hqf)
    have hp : FitP 1073741824 ((trimL (riseQ x.length.val x.fromV.val x.toV.val x.degree)).map mkR) := fun a ha => ⟨by have := (hp1 a ha).1; omega, by have := (hp1 a ha).2; omega⟩
    have hlen := len_trimL (riseQ x.length.val x.fromV.val x.toV.val x.degree)
    have hs := Same5 _ (by rw [List.length_map]; omega) hp
    have hchk := chk_trimL (q := riseQ x.length.val x.fromV.val x.toV.val x.degree) (by omega)
    -- what the code says
    unfold riseC at hc
    cases hb : (!x.length.valid || (decide (x.length.val ≤ 0) || (!x.fromV.valid || !x.toV.valid))) with
    | true => rw [hb] at hc; cases hc
    | false =>
      rw [hb, cond_false] at hc
      simp only [Bool.or_eq_false_iff, Bool.not_eq_false', decide_eq_false_iff_not] at hb
      obtain ⟨v1, v2, v3, v4⟩ := hb
      have hpos : 0 < x.length.val := by grind
      have e1 := CPo.Eval _ ⟨false, [], []⟩ hchk hp ⟨by simp, by simp⟩
      rw [vals_mkR, val_nil (a := ⟨false, [], []⟩) rfl, evalL_trimL, riseQ_zero, mkR_of v3] at e1
      have e2 := CPo.Eval _ x.length hchk hp ⟨by omega, by omega⟩
      rw [vals_mkR, evalL_trimL, riseQ_end _ _ _ _ hpos, mkR_of v4] at e2
      have t1 := CBa.Rat x.fromV x.fromV (by omega) (by omega)
      have t2 := CBa.Rat x.toV x.toV (by omega) (by omega)
      rw [eqR_self] at t1 t2
      refine linkworklaw52_LawRises.e5 x _ _ _ _ _ none _ _ _ _ _ _ _ _ awake rfl l1 (decide_eq_false g1) l2 (decide_eq_false g2) l3 (decide_eq_false g3) r1 r2 (CBa.Num none) rfl hs rfl rfl e1 e2 t1 rfl t2 rfl ?_
      by_cases d1 : x.degree = 1
      · exact linkworklaw52_LawRises.l11 _ 1 x _ _ (by omega) (by omega)
      by_cases d3 : x.degree = 3
      · rw [d3] at hql hqf ⊢
        have hd := rise3_d x.length.val x.fromV.val x.toV.val hpos
        refine rises_step x _ 1 _ _ (by omega) hqf f1 hd.1 hd.2 (by omega) (by omega) ?_
        exact linkworklaw52_LawRises.l11 _ 2 x _ _ (by omega) (by omega)
      · have d5 : x.degree = 5 := by
          refine Classical.byContradiction fun h => ?_
          rw [if_neg (by omega)] at hc; cases hc
        rw [d5] at hql hqf ⊢
        have hd := rise5_d x.length.val x.fromV.val x.toV.val hpos
        have hdd := rise5_dd x.length.val x.fromV.val x.toV.val hpos
        refine rises_step x _ 1 _ _ (by omega) hqf f1 hd.1 hd.2 (by omega) (by omega) ?_
        have hq2l : (derI 1 ((riseQ x.length.val x.fromV.val x.toV.val 5).drop 1)).length ≤ 6 := by rw [derI_len, List.length_drop]; omega
        have hq2f : Fl 1048600 (derI 1 ((riseQ x.length.val x.fromV.val x.toV.val 5).drop 1)) := by
          intro y hy
          have := fl_derI2 (k := 1048576) _ 1 (by rw [List.length_drop]; omega) (fun z hz => fl_riseQ (degree := 5) (ht_of4 f1) (ht_of4 f2) (ht_of4 f3) z (List.mem_of_mem_drop hz)) y hy
          omega
        refine rises_step x _ 2 _ _ (by omega) hq2f f1 hdd.1 hdd.2 (by omega) (by omega) ?_
        exact linkworklaw52_LawRises.l11 _ 3 x _ _ (by omega) (by omega)
  · have r1 := CLw.RiseE x.length x.fromV x.toV x.degree f1 f2 f3 hc
    have r2 := CRl.RiseE x.length x.fromV x.toV x.degree f1 f2 f3 hc
    have hs := Same5 [] (by simp) (fun a ha => by cases ha)
    exact linkworklaw52_LawRises.e4 x _ _ _ _ _ _ _ _ _ _ awake rfl l1 (decide_eq_false g1) l2 (decide_eq_false g2) l3 (decide_eq_false g3) r1 r2 (CBa.Num _) rfl hs rfl hc

end C52
end Go.Proofs.YtcgbmnkgmepikaaGreat.Sym


/-
  Bridge: how what is read of an argument becomes a pure value; how a contract that says 'true' becomes what a row asks.
-/
namespace Go.Proofs.YtcgbmnkgmepikaaGreat.Sym
open Go Go.RowKit Go.ChangeShapes Go.WideShapes
set_option linter.unusedVariables false

/-- What was there. -/
abbrev Old (w : World) (b : Nat) : Prop := b < w.heap.size

/-- What is read at type t is what f lays of some a, of which Q holds. -/
def Opens (P : Program) (t : TypeId) {α : Type} (f : α → List PV) (Q : α → Prop) : Prop :=
  ∀ {H : Type} (enc : TypeId × Value → H) (w : World) (base : Nat) (spare : Nat → Bool) (held : Bool) (fuel : Nat) (cs : List Value) (x : DataW H × List MemPlace),
    DataW.trod enc P w base spare held fuel t cs = some x → (∀ n ∈ x.1.weights P t, n ≤ reachBytes) → ∃ a, RdCells (Old w) w (f a) cs ∧ Q a

theorem rdCells_append {I : Nat → Prop} {w : World} {a b : List PV} {us vs : List Value} (h : RdCells I w a us) (k : RdCells I w b vs) : RdCells I w (a ++ b) (us ++ vs) := by
  refine ⟨by rw [List.length_append, List.length_append, h.1, k.1], fun j c u hc hu => ?_⟩
  by_cases hj : j < a.length
  · rw [List.getElem?_append_left hj] at hc
    rw [List.getElem?_append_left (by rw [← h.1]; exact hj)] at hu
    exact h.2 j c u hc hu
  · rw [List.getElem?_append_right (by omega)] at hc
    rw [List.getElem?_append_right (by rw [← h.1]; omega)] at hu
    rw [h.1] at hc
    exact k.2 _ c u hc hu

theorem rdCells_one {I : Nat → Prop} {w : World} {p : PV} {v : Value} (h1 : p.one = true) (h : Rd I w p v) : RdCells I w [p] [v] := by
  refine ⟨rfl, fun j c u hc hu => ?_⟩
  cases j with
  | zero => simp at hc hu; subst hc hu; exact ⟨h1, h⟩
  | succ j => simp at hc

theorem opens_int {P : Program} {t : TypeId} {k : IntKind} (ht : P.underlying t = some (.int k)) : Opens P t (fun n : Int => [.int k n]) (fun n => (Lit.int k n).wf = true) := by
  intro H enc w base spare held fuel cs x h _
  obtain ⟨n, rfl, _, hw⟩ := DataW.trod_int ht h
  exact ⟨n, rdCells_one rfl (.int _ _), hw⟩

theorem opens_bool {P : Program} {t : TypeId} (ht : P.underlying t = some .bool) : Opens P t (fun b : Bool => [.bool b]) (fun _ => True) := by
  intro H enc w base spare held fuel cs x h _
  obtain ⟨b, rfl, _⟩ := DataW.trod_bool ht h
  exact ⟨b, rdCells_one rfl (.bool _), trivial⟩

theorem cell_old {w : World} {a : Addr} {v : Value} (h : w.cell? a = some v) : a.spot = none ∧ a.block < w.heap.size := by
  unfold World.cell? at h
  split at h
  · rename_i c q r hc
    refine ⟨?_, (Array.getElem?_eq_some_iff.1 hc).1⟩
    cases hs : a.spot with
    | none => rfl
    | some _ => rw [hs] at h; simp at h
  · cases h

theorem add_spot (a : Addr) : a.add 0 = a := rfl
theorem add_spot0 (b o i : Nat) : (⟨b, o, none⟩ : Addr).add i = ⟨b, o + i, none⟩ := by
  unfold Addr.add
  split
  · rename_i h; subst h; rfl
  · rfl

theorem weights_all {H : Type} {P : Program} {e : TypeId} : ∀ {l : List (DataW H)} {d : DataW H} {n : Nat}, d ∈ l → n ∈ d.weights P e → n ∈ DataW.weightsAll P e l
  | a :: r, d, n, hd, hn => by
    simp only [DataW.weightsAll, List.mem_append]
    rcases List.mem_cons.1 hd with h | h
    · subst h; exact Or.inl hn
    · exact Or.inr (weights_all h hn)

theorem opens_slice {P : Program} {t e : TypeId} {α : Type} {f : α → List PV} {Q : α → Prop} {s sb : Nat} (ht : P.underlying t = some (.slice e)) (hs : P.cellsOf e = s) (hs0 : 0 < s) (hb8 : P.bytesOf e = sb) (hf : ∀ a, (f a).length = s) (ho : Opens P e f Q) :
    Opens P t (fun l : List α => [.list (l.map f)]) (fun l => l.length * sb ≤ reachBytes ∧ ∀ a ∈ l, Q a) := by
  intro H enc w base spare held fuel cs x h hwt
  rcases Deep.open_slice ht h with ⟨rfl, _⟩ | ⟨a, len, cap, m, n, D, Pl, rfl, hb, hl, hm, hmm, hxx, hx⟩
  · exact ⟨[], rdCells_one rfl (.nil _ _), by simp, by simp⟩
  rw [hs] at hx
  have hlm : len ≤ m := by rw [hmm]; split <;> omega
  have hx' : ∀ i, i < len → ∃ (y : α × List Value), w.cells? base (a.add (i * s)) s = some y.2 ∧ RdCells (Old w) w (f y.1) y.2 ∧ Q y.1 := by
    intro i hi
    obtain ⟨cs', h1, h2⟩ := hx i (by omega)
    obtain ⟨y, h3, h4⟩ := ho enc w base spare held n cs' _ h2 (fun q hq => hwt q (by
      rw [hxx]
      simp only [DataW.weights, ht, List.mem_cons, List.mem_append]
      exact Or.inr (Or.inl (weights_all (List.mem_map.2 ⟨i, List.mem_range.2 hi, rfl⟩) hq))))
    exact ⟨(y, cs'), h1, h3, h4⟩
  by_cases h0 : len = 0
  · subst h0
    exact ⟨[], rdCells_one rfl (.nil _ _), by simp, by simp⟩
  have hne : Nonempty (α × List Value) := ⟨(hx' 0 (by omega)).choose⟩
  have : Inhabited (α × List Value) := Classical.inhabited_of_nonempty hne
  obtain ⟨Y, hY⟩ := Deep.choose_lt hx'
  obtain ⟨c0, _⟩ := hY 0 (by omega)
  obtain ⟨_, cl0, cg0⟩ := World.cells?_some c0
  have cg := cg0 0 hs0
  obtain ⟨v0, hv0⟩ : ∃ v, (Y 0).2[0]? = some v := ⟨_, List.getElem?_eq_getElem (by omega)⟩
  rw [hv0] at cg
  rw [Nat.zero_mul, add_spot, add_spot] at cg
  obtain ⟨hsp, hbl⟩ := cell_old cg
  obtain ⟨b, o, sp⟩ := a
  simp only at hsp hbl
  subst hsp
  have hcell : ∀ i j : Nat, i < len → j < s → w.cell? ⟨b, o + (i * s + j), none⟩ = (Y i).2[j]? := by
    intro i j hi hj
    obtain ⟨c1, _⟩ := hY i hi
    obtain ⟨_, _, g⟩ := World.cells?_some c1
    have := g j hj
    rw [add_spot0, add_spot0, Nat.add_assoc] at this
    exact this
  refine ⟨(List.range len).map (fun i => (Y i).1), rdCells_one rfl ?_, ?_, ?_⟩
  · have e : len = (((List.range len).map (fun i => (Y i).1)).map f).length := by simp
    have hrow : ∀ (i : Nat) row, (((List.range len).map (fun i => (Y i).1)).map f)[i]? = some row → i < len ∧ row = f (Y i).1 := by
      intro i row hr
      have hi : i < len := by have := (List.getElem?_eq_some_iff.1 hr).1; rw [← e] at this; exact this
      refine ⟨hi, ?_⟩
      simp [List.getElem?_map, List.getElem?_range hi] at hr
      exact hr.symm
    have key : Rd (Old w) w (.list (((List.range len).map (fun i => (Y i).1)).map f)) (.slice (some ⟨b, o, none⟩) (((List.range len).map (fun i => (Y i).1)).map f).length cap) := by
      refine Rd.list _ b o cap s (fun i j => ((Y i).2[j]?).getD .nilIface) (by rw [← e]; exact hl) hbl ?_ ?_ ?_
      · intro i row hr
        obtain ⟨_, rfl⟩ := hrow i row hr
        exact hf _
      · intro i j row x hr hx2
        obtain ⟨hi, rfl⟩ := hrow i row hr
        obtain ⟨c1, r1, _⟩ := hY i hi
        have hj : j < s := by rw [← hf (Y i).1]; exact (List.getElem?_eq_some_iff.1 hx2).1
        have hlen := r1.1
        obtain ⟨u, hu⟩ : ∃ u, (Y i).2[j]? = some u := ⟨_, List.getElem?_eq_getElem (by rw [← hlen, hf]; exact hj)⟩
        refine ⟨(r1.2 j x u hx2 hu).1, ?_⟩
        rw [hcell i j hi hj, hu]; rfl
      · intro i j row x hr hx2
        obtain ⟨hi, rfl⟩ := hrow i row hr
        obtain ⟨c1, r1, _⟩ := hY i hi
        have hj : j < s := by rw [← hf (Y i).1]; exact (List.getElem?_eq_some_iff.1 hx2).1
        have hlen := r1.1
        obtain ⟨u, hu⟩ : ∃ u, (Y i).2[j]? = some u := ⟨_, List.getElem?_eq_getElem (by rw [← hlen, hf]; exact hj)⟩
        rw [hu]
        exact (r1.2 j x u hx2 hu).2
    rw [← e] at key
    exact key
  · have := hwt ((len + (m - len)) * sb) (by
      rw [hxx]
      simp only [DataW.weights, ht, hb8, List.length_map, List.length_range, List.mem_cons, true_or])
    rw [List.length_map, List.length_range]
    exact Nat.le_trans (Nat.mul_le_mul_right _ (by omega)) this
  · intro y hy
    obtain ⟨i, hi, rfl⟩ := List.mem_map.1 hy
    exact (hY i (List.mem_range.1 hi)).2.2

/-- The fields of a struct, one behind the other. -/
theorem take_add {α : Type} (l : List α) (a b : Nat) : l.take (a + b) = l.take a ++ (l.drop a).take b := List.take_add

theorem opens_struct {P : Program} {t : TypeId} {fs : Array Field} (ht : P.underlying t = some (.struct fs)) {H : Type} {enc : TypeId × Value → H} {w : World} {base : Nat} {spare : Nat → Bool} {held : Bool} {fuel : Nat} {cs : List Value} {x : DataW H × List MemPlace}
    (h : DataW.trod enc P w base spare held fuel t cs = some x) : cs.length = P.cellsOf t := (DataW.trod_struct ht h).choose_spec.choose_spec.2.2.1

/-- A struct: its field at 'off' of 's' cells. -/
theorem opens_field {P : Program} {t u : TypeId} {fs : Array Field} {α : Type} {f : α → List PV} {Q : α → Prop} (ht : P.underlying t = some (.struct fs)) {H : Type} {enc : TypeId × Value → H} {w : World} {base : Nat} {spare : Nat → Bool} {held : Bool} {fuel : Nat} {cs : List Value} {x : DataW H × List MemPlace}
    (h : DataW.trod enc P w base spare held fuel t cs = some x) (hwt : ∀ n ∈ x.1.weights P t, n ≤ reachBytes) (i off s : Nat) (hi : (fs[i]?).map (fun f => (f.type, f.offset)) = some (u, off)) (hs : P.cellsOf u = s) (ho : Opens P u f Q) : ∃ a, RdCells (Old w) w (f a) ((cs.drop off).take s) ∧ Q a := by
  obtain ⟨xs, n, _, hx, hl, hlen, hf⟩ := DataW.trod_struct ht h
  cases hfi : fs[i]? with
  | none => rw [hfi] at hi; cases hi
  | some fd =>
    rw [hfi] at hi
    injection hi with hi
    injection hi with e1 e2
    have h1 := hf i fd hfi
    have h2 : i < xs.length := by rw [hlen]; exact (Array.getElem?_eq_some_iff.1 hfi).1
    rw [List.getElem?_eq_getElem h2, e1, e2, hs] at h1
    refine ho enc w base spare held n _ _ h1 (fun q hq => hwt q ?_)
    rw [hx]
    simp only [DataW.weights, ht]
    refine DataW.weights_mem_each (j := i) (t := u) (d := xs[i].1) ?_ ?_ q hq
    · rw [List.getElem?_map, Array.getElem?_toList, hfi]
      exact congrArg some e1
    · rw [List.getElem?_map, List.getElem?_eq_getElem h2]; rfl

/-- The fields of a struct: type and offset. -/
def fldsOf : Option TypeDesc → Option (List (TypeId × Nat))
  | some (.struct fs) => some (fs.toList.map fun f => (f.type, f.offset))
  | _ => none

theorem flds_spec {u : Option TypeDesc} {l : List (TypeId × Nat)} (h : fldsOf u = some l) : ∃ fs, u = some (.struct fs) ∧ ∀ i : Nat, (fs[i]?).map (fun f => (f.type, f.offset)) = l[i]? := by
  unfold fldsOf at h
  split at h
  · rename_i fs
    injection h with h
    refine ⟨fs, rfl, fun i => ?_⟩
    rw [← h, List.getElem?_map, Array.getElem?_toList]
  · cases h

/-- What an argument is that is a struct. -/
theorem rd_struct {P : Program} {t : TypeId} {fs : Array Field} {w : World} {r : Reach} {b0 : Nat} {v : Value} {cs : List PV} (ht : P.underlying t = some (.struct fs)) (hv : Value.okWide P w r b0 t v) (h : RdCells (Old w) w cs v.cells.toList) : Rd (Old w) w (.agg cs) v := by
  obtain ⟨us, rfl, _⟩ := okWide_struct ht hv
  have h : RdCells (Old w) w cs us.toList := h
  refine .agg cs us (by rw [h.1]; simp) (fun j c hc => ?_) (fun j c u hc hu => (h.2 j c u hc (by simpa using hu)).2)
  obtain ⟨u, hu⟩ : ∃ u, us.toList[j]? = some u := ⟨_, List.getElem?_eq_getElem (by rw [← h.1]; exact (List.getElem?_eq_some_iff.1 hc).1)⟩
  exact (h.2 j c u hc hu).1

theorem keeps_kept {w w' : World} {may : MemPlace → Prop} (h : Keeps (fun _ => False) w w') : w.keptBut w' may := by
  refine ⟨h.os, h.output, fun i hi => ?_⟩
  have e := h.block i hi (fun h => h)
  rw [e]
  cases w.heap[i]? with
  | none => rfl
  | some o => cases o <;> simp

theorem keeps_frozen {w w' : World} (h : Keeps (fun _ => False) w w') {a : Addr} (ha : a.block < w.heap.size) : w'.frozen? a = w.frozen? a := by
  have e := h.block _ ha (fun h => h)
  unfold World.frozen?
  rw [e]

theorem keeps_same {w w' : World} (h : Keeps (fun _ => False) w w') {p : MemPlace} (hp : p.block < w.heap.size) : w.sameAt w' p := by
  cases p with
  | cell b off =>
    have e := h.block b hp (fun h => h)
    show w'.cell? _ = w.cell? _
    simp [World.cell?, e]
  | map b => exact h.block b hp (fun h => h)

section
variable {H : Type} {enc : TypeId × Value → H} {P : Program}

/-- What a row asks, of a function that returns true and writes nothing that was there. -/
theorem post_true {f : Func} {s : ChangeSpec} {apart fresh handsOn again : Bool} {W W' : World} {args : Array Value} {ds gs : List (DataW H)} {before : List MemPlace} {tb : TypeId}
    (hW : DataW.Whole enc P f.params.toList s.vars apart W args.toList ds gs before) (hk : Keeps (fun _ => False) W W')
    (hvars : s.vars = []) (hrt : f.resultTypes = #[tb]) (htb : P.underlying tb = some .bool)
    (hres : (s.fn H (ds ++ gs)).results = [.lit (.bool true)]) (hargs : (s.fn H (ds ++ gs)).args = ds) (hgs : (s.fn H (ds ++ gs)).vars = [])
    (hl : laidOutB P = true) (hr : ∀ t ∈ f.params.toList, P.readableRec t = true ∧ t < P.types.size) : s.post enc P f apart fresh handsOn again W args (.bool true) W' := by
  have hlt := hW.lt
  obtain ⟨p, q, hA, hV, hpq, hz, hn⟩ := hW
  have hW : DataW.Whole enc P f.params.toList s.vars apart W args.toList ds gs before := ⟨p, q, hA, hV, hpq, hz, hn⟩
  rw [hvars] at hV
  obtain ⟨hg0, hq0⟩ := trodVars_none hV
  subst hq0
  have hpp : before = p := by rw [hpq]; simp
  have again' : ∀ (sp : Nat → Bool), (∀ x ∈ before, sp x.block = true) → DataW.TrodAll enc P W' 0 sp true f.params.toList args.toList ds p := by
    intro sp hsp
    have key : ∀ {ts : List TypeId} {vs : List Value} {es : List (DataW H)} {ps : List MemPlace}, (∀ t ∈ ts, P.readableRec t = true ∧ t < P.types.size) → (∀ x ∈ ps, x ∈ before) → DataW.TrodAll enc P W 0 (fun _ => true) true ts vs es ps → DataW.TrodAll enc P W' 0 sp true ts vs es ps := by
      intro ts
      induction ts with
      | nil =>
        intro vs es ps _ _ h
        obtain ⟨rfl, rfl, rfl⟩ := trodAll_nil h
        exact trodAll_mk0
      | cons t ts ih =>
        intro vs es ps hts hps h
        obtain ⟨v, vs', d, ds', a, b, rfl, rfl, rfl, h1, h2⟩ := trodAll_cons h
        refine ⟨a, b, WideElems.Trod_stays hl (hts t (List.mem_cons_self ..)).1 (hts t (List.mem_cons_self ..)).2 h1 (fun x hx => keeps_same hk (hlt x (hps x (List.mem_append_left _ hx)))) (fun x hx => hsp x (hps x (List.mem_append_left _ hx))), ih (fun u hu => hts u (List.mem_cons_of_mem _ hu)) (fun x hx => hps x (List.mem_append_right _ hx)) h2, rfl⟩
    exact key hr (fun x hx => by rw [hpp]; exact hx) hA
  have hold : ∀ x ∈ before, (fun b => decide (b < W.heap.size)) x.block = true := fun x hx => by simpa using hlt x hx
  have hres' : ∀ (b : Nat) (sp : Nat → Bool) (hd : Bool), DataW.TrodAll enc P W' b sp hd f.resultTypes.toList ((Value.bool true).resultList f.resultTypes.size) (s.fn H (ds ++ gs)).results [] := by
    intro b sp hd
    rw [hrt, hres]
    exact trodAll_mk1 (shut_bool htb true)
  have hv' : ∀ sp : Nat → Bool, DataW.TrodVars enc P W' sp s.vars (s.fn H (ds ++ gs)).vars [] := by
    intro sp; rw [hvars, hgs]; rfl
  have again2 : ∀ (sp : Nat → Bool), (∀ x ∈ before, sp x.block = true) → DataW.TrodAll enc P W' 0 sp true f.params.toList args.toList (s.fn H (ds ++ gs)).args p := by
    intro sp hsp
    rw [hargs]; exact again' sp hsp
  refine ⟨ds, gs, before, [], p, [], hW, hres' _ _ _, again2 _ hold, hv' _, keeps_kept hk, fun _ => ?_⟩
  refine ⟨ok_one hrt rfl (okWide_bool_mk htb true), _, _, ([] ++ p) ++ [], ⟨[] ++ p, [], trodAll_append (again2 _ (fun _ _ => rfl)) (hres' _ _ _), hv' _, rfl, ?_, ?_⟩, ?_⟩
  · intro b off hp
    have hp' : MemPlace.cell b off ∈ before := by rw [hpp]; simpa using hp
    rw [keeps_frozen hk (hlt _ hp')]
    exact hz b off hp'
  · intro ha
    have := hn ha
    rw [hpp] at this
    simpa using this
  · intro x hx _
    rw [hpp]
    simpa using hx
end

end Go.Proofs.YtcgbmnkgmepikaaGreat.Sym


/-
  Open: what is read at the types of the program.
-/
namespace Go.Proofs.YtcgbmnkgmepikaaGreat.Sym
open Go Go.RowKit Go.ChangeShapes Go.WideShapes
set_option linter.unusedVariables false

theorem u32_val {n : Int} (h : (Lit.int .u32 n).wf = true) : ∃ v : UInt32, (v.toNat : Int) = n := by
  have h : (0 ≤ n ∧ n ≤ 4294967295) := by simpa [Lit.wf, IntKind.min, IntKind.max, IntKind.signed, IntKind.bits] using h
  refine ⟨UInt32.ofNat n.toNat, ?_⟩
  rw [show (UInt32.ofNat n.toNat).toNat = n.toNat from by simp; omega]
  omega

theorem i64_val {n : Int} (h : (Lit.int .i64 n).wf = true) : InI64 n := by
  have h : (-9223372036854775808 ≤ n ∧ n ≤ 9223372036854775807) := by simpa [Lit.wf, IntKind.min, IntKind.max, IntKind.signed, IntKind.bits] using h
  unfold InI64
  omega

theorem opens_word : Opens prg 131 wordPV (fun _ => True) := by
  intro H enc w base spare held fuel cs x h hwt
  obtain ⟨n, h1, h2⟩ := opens_int (k := .u32) (show prg.underlying 131 = some (.int .u32) by kernel_rfl) enc w base spare held fuel cs x h hwt
  obtain ⟨v, rfl⟩ := u32_val h2
  exact ⟨v, h1, trivial⟩

theorem opens_words : Opens prg 22 (fun l : Words => [wordsPV l]) (fun l => l.length * 4 ≤ reachBytes) := by
  intro H enc w base spare held fuel cs x h hwt
  obtain ⟨l, h1, h2, _⟩ := opens_slice (s := 1) (show prg.underlying 22 = some (.slice 131) by kernel_rfl) (by kernel_rfl) (by omega) (sb := 4) (by kernel_rfl) (fun _ => rfl) opens_word enc w base spare held fuel cs x h hwt
  exact ⟨l, h1, h2⟩

theorem split3 {α : Type} (cs : List α) (a b c : Nat) (h : cs.length = a + b + c) : cs = (cs.drop 0).take a ++ ((cs.drop a).take b ++ (cs.drop (a + b)).take c) := by
  have e : (cs.drop (a + b)).take c = cs.drop (a + b) := List.take_of_length_le (by rw [List.length_drop]; omega)
  have h1 : (cs.drop a).take b ++ cs.drop (a + b) = cs.drop a := by
    have := List.take_append_drop b (cs.drop a)
    rwa [List.drop_drop] at this
  rw [e, h1, List.drop_zero, List.take_append_drop]

/-- A fraction as it came in. -/
def LenR (a : ARat) : Prop := a.num.length * 4 ≤ reachBytes ∧ a.den.length * 4 ≤ reachBytes

theorem opens_ARat : Opens prg 24 ARat.cells LenR := by
  intro H enc w base spare held fuel cs x h hwt
  obtain ⟨fs, hu, e⟩ := flds_spec (show fldsOf (prg.underlying 24) = some [(4, 0), (22, 1), (22, 2)] by kernel_rfl)
  have hl := opens_struct hu h
  have hl : cs.length = 1 + 1 + 1 := hl.trans (by kernel_rfl)
  obtain ⟨b, r0, _⟩ := opens_field hu h hwt 0 0 1 (e 0) (by kernel_rfl) (opens_bool (show prg.underlying 4 = some .bool by kernel_rfl))
  obtain ⟨n, r1, q1⟩ := opens_field hu h hwt 1 1 1 (e 1) (by kernel_rfl) opens_words
  obtain ⟨d, r2, q2⟩ := opens_field hu h hwt 2 2 1 (e 2) (by kernel_rfl) opens_words
  refine ⟨⟨b, n, d⟩, ?_, q1, q2⟩
  rw [split3 cs 1 1 1 hl]
  exact rdCells_append r0 (rdCells_append r1 r2)

end Go.Proofs.YtcgbmnkgmepikaaGreat.Sym


/-
  RowRises: the row of LawRises.
-/
namespace Go.Proofs.YtcgbmnkgmepikaaGreat.Sym
open Go Go.RowKit Go.ChangeShapes Go.WideShapes Go.ChangeAt
set_option linter.unusedVariables false

theorem own : ownKnob Tryz.prog.godebug = none := by kernel_rfl
theorem laid : laidOutB prg = true := by kernel_rfl

theorem split4 {α : Type} (cs : List α) (a b c d : Nat) (h : cs.length = a + b + c + d) : cs = (cs.drop 0).take a ++ ((cs.drop a).take b ++ ((cs.drop (a + b)).take c ++ (cs.drop (a + b + c)).take d)) := by
  have h0 := split3 cs a b (c + d) (by omega)
  have h1 : (cs.drop (a + b)).take (c + d) = (cs.drop (a + b)).take c ++ (cs.drop (a + b + c)).take d := by
    rw [take_add, List.drop_drop]
  rw [h1] at h0
  exact h0

theorem opens_Ends : Opens prg 26 AEnds.cells (fun x => LenR x.length ∧ LenR x.fromV ∧ LenR x.toV ∧ InI64 x.degree) := by
  intro H enc w base spare held fuel cs x h hwt
  obtain ⟨fs, hu, e⟩ := flds_spec (show fldsOf (prg.underlying 26) = some [(24, 0), (24, 3), (24, 6), (3, 9)] by kernel_rfl)
  have hl := opens_struct hu h
  have hl : cs.length = 3 + 3 + 3 + 1 := hl.trans (by kernel_rfl)
  obtain ⟨a, r0, q0⟩ := opens_field hu h hwt 0 0 3 (e 0) (by kernel_rfl) opens_ARat
  obtain ⟨b, r1, q1⟩ := opens_field hu h hwt 1 3 3 (e 1) (by kernel_rfl) opens_ARat
  obtain ⟨c, r2, q2⟩ := opens_field hu h hwt 2 6 3 (e 2) (by kernel_rfl) opens_ARat
  obtain ⟨d, r3, q3⟩ := opens_field hu h hwt 3 9 1 (e 3) (by kernel_rfl) (opens_int (k := .i64) (show prg.underlying 3 = some (.int .i64) by kernel_rfl))
  refine ⟨⟨a, b, c, d⟩, ?_, q0, q1, q2, i64_val q3⟩
  rw [split4 cs 3 3 3 1 hl]
  exact rdCells_append r0 (rdCells_append r1 (rdCells_append r2 r3))

theorem reach_lt : reachBytes < 140737488355328 := by decide

/-- One argument, of a list of them. -/
theorem okArg {P : Program} {W : World} {base : Nat} {ps : Array TypeId} {args : Array Value} (hval : ∀ (j : Nat) t v, ps[j]? = some t → args[j]? = some v → Value.okWide P W .any base t v) (j : Nat) {t : TypeId} {v : Value} (h1 : ps[j]? = some t) (h2 : args[j]? = some v) : Value.okWide P W .any base t v := hval j t v h1 h2

namespace RowRises

set_option maxRecDepth 100000 in
theorem contract (H : Type) (enc : TypeId × Value → H) (W : World) (base : Nat) (args : Array Value) (ds gs : List (DataW H)) (before : List MemPlace)
    (hval : ∀ (j : Nat) t v, Tryz.f3.params[j]? = some t → args[j]? = some v → Value.okWide Tryz.prog W .any base t v)
    (hW : DataW.Whole enc Tryz.prog Tryz.f3.params.toList Rows.lawRisesSpec.vars false W args.toList ds gs before)
    (hz : (DataW.weightsEach Tryz.prog (Tryz.f3.params.toList ++ Rows.lawRisesSpec.plain.varTypes Tryz.prog) (ds ++ gs)).all (· ≤ reachBytes) = true) :
    Calls Tryz.prog 3 args W fun e W' => ∃ v, e = .returned v ∧ Rows.lawRisesSpec.post enc Tryz.prog Tryz.f3 false true false false W args v W' := by
  have hW' := hW
  obtain ⟨p, q, hA, hV, rfl, hfz, hnd⟩ := hW
  have hp : Tryz.f3.params = #[26] := by kernel_rfl
  rw [hp] at hA hval hz
  obtain ⟨v0, vs0, d0, ds0, p0, q0, hargs, rfl, rfl, h0, r0⟩ := trodAll_cons hA
  obtain ⟨rfl, rfl, rfl⟩ := trodAll_nil r0
  obtain rfl : args = #[v0] := by cases args; simp_all
  obtain ⟨rfl, rfl⟩ := trodVars_none hV
  obtain ⟨n, hn⟩ := h0
  have hw0 : ∀ k ∈ d0.weights prg 26, k ≤ reachBytes := by
    intro k hk
    have := List.all_eq_true.1 hz k (DataW.weights_mem_each (j := 0) rfl rfl k hk)
    simpa using this
  obtain ⟨x, hx, b1, b2, b3, b4⟩ := opens_Ends enc W 0 (fun _ => true) true n _ _ hn hw0
  have hm := reach_lt
  have hc := C52.LawRises x (by have := b1.1; have := b1.2; omega) (by have := b2.1; have := b2.2; omega) (by have := b3.1; have := b3.2; omega)
  obtain ⟨fs, hu, _⟩ := flds_spec (show fldsOf (prg.underlying 26) = some [(24, 0), (24, 3), (24, 6), (3, 9)] by kernel_rfl)
  have hv0 : Value.okWide Tryz.prog W .any base 26 v0 := okArg hval 0 (by simp) (by simp)
  have hrd : Rd (Old W) W x.pv v0 := rd_struct (P := Tryz.prog) (cs := x.cells) hu hv0 hx
  refine (hc.2 (Old W) W (fun _ => none) #[v0] (fun b hb => hb) ⟨(fun r sc h => by cases h), (fun r r' b h => by obtain ⟨_, h⟩ := h)⟩ rfl ?_).mono ?_
  · intro j e v he hv
    cases j with
    | zero => simp at he hv; subst he hv; exact hrd
    | succ j => simp at he
  · intro e W' ⟨v, β', he, _, hk, _, hv, _⟩
    subst he
    have hv : Rd _ W' (vB true) v := hv
    cases hv
    have hk' : Keeps (fun _ => False) W W' := ⟨hk.os, hk.tape, hk.output, hk.size, fun k h1 _ => hk.block k h1 (fun ⟨y, hy, _⟩ => by obtain ⟨_, hy⟩ := hy), hk.shape⟩
    refine ⟨_, rfl, post_true (tb := 4) hW' hk' rfl (by kernel_rfl) (by kernel_rfl) rfl rfl rfl laid ?_⟩
    rw [hp]
    intro t ht
    have : t = 26 := by simpa using ht
    subst this
    exact ⟨by kernel_rfl, of_decide_eq_true (by kernel_rfl)⟩

set_option maxRecDepth 100000 in
theorem lifted (os : Os) (started : os.Started) (H : Type) (enc : TypeId × Value → H) :
    ReturnsInHanded {} Tryz.checked os 3 .any (Rows.lawRisesSpec.pre6 enc Tryz.prog Tryz.f3 Rows.lawRisesRow.domain false) (Rows.lawRisesSpec.post enc Tryz.prog Tryz.f3 false true false false) := by
  refine returnsInHanded_of_change_sized (C := Tryz.checked) own started (by kernel_rfl) Tryz.func3
    (ChangeSpec.witness6 (enc := enc) (C := Tryz.checked) false ⟨#[], #[.agg #[.bool false, .slice none 0 0, .slice none 0 0, .bool false, .slice none 0 0, .slice none 0 0, .bool false, .slice none 0 0, .slice none 0 0, .int .i64 0]], []⟩ 8 (by kernel_rfl) (by kernel_rfl) (by kernel_rfl) (by kernel_rfl)) ?_
  intro W base args ds gs before hval hW _ hz _
  exact contract H enc W base args ds gs before hval hW hz

theorem proved : Rows.LawRisesSaid :=
  OpenClaim.holds_of_wide 3 Tryz.f3 rfl rfl rfl rfl rfl rfl rfl ⟨rfl, rfl, rfl, rfl, rfl⟩ rfl rfl rfl rfl rfl (by kernel_rfl) Tryz.func3 (by kernel_rfl)
    (of_decide_eq_true (by kernel_rfl)) (by unfold Func.isWrapper; first | (rw [if_pos (by decide +kernel)]; kernel_rfl) | (rw [if_neg (by decide +kernel)]; exact ⟨rfl, rfl⟩))
    (fun os started H enc _ => lifted os started H enc)

end RowRises
end Go.Proofs.YtcgbmnkgmepikaaGreat.Sym

