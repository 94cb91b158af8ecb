/- The statement LawParts is proved: Smooth, Dwells and Bounds of layer 52 return what is specified; no condition. -/
import Derived.Test.YtcgbmnkgmepikaaGreatK2
import Derived.Test.YtcgbmnkgmepikaaGreatK0
import Derived.Test.YtcgbmnkgmepikaaGreatRows
import Derived.JoinedCond
namespace Go.Proofs.YtcgbmnkgmepikaaGreat.Sym
open Go Path CInt
set_option linter.unusedVariables false
theorem drop_take_map {α β : Type} {l : List α} {t : Nat} {v : α} (f : α → β) (h : l[t]? = some v) : (l.take (t + 1)).map f = (l.take t).map f ++ [f v] := by
  rw [List.take_add_one, h, List.map_append]; rfl
namespace CLw
theorem Derive (l : ALaw) (hc : chkLaw l = 0) (hf : FitW 1073741824 l) : Contract prg 22 [l.pv] (.tup [(deriveW l).pv, .nilI]) := by
  have g := good_of hc
  have hk := Check l hf
  rw [hc] at hk
  have hle := g.le
  have hlen := g.len
  have loop : ∀ (j t : Nat) (sb : List ARat) (sp : List (List ARat)), l.pieces.length - t = j → t ≤ l.pieces.length → sb = (l.breaks.take t).map (fun a => mkR a.val) → sp = (l.pieces.take t).map (fun p => (deriveL (vals p)).map mkR) → law_Derive.Loop1 l t sb sp (.tup [(deriveW l).pv, .nilI]) := by
    intro j
    induction j with
    | zero =>
      intro t sb sp hj ht hb hp
      rw [List.take_of_length_le (by omega)] at hb hp
      have e : deriveW l = ⟨sb, sp⟩ := by
        unfold deriveW vals
        rw [hb, hp, List.map_map]; rfl
      rw [e]
      exact law_Derive.l12 l t sb sp (by omega)
    | succ j ih =>
      intro t sb sp hj ht hb hp
      obtain ⟨v, hv⟩ : ∃ v, l.pieces[t]? = some v := ⟨_, List.getElem?_eq_getElem (by omega)⟩
      obtain ⟨b, hb'⟩ : ∃ b, l.breaks[t]? = some b := ⟨_, List.getElem?_eq_getElem (by omega)⟩
      have hvf := hf.2 v (List.mem_of_getElem? hv)
      have hbf := hf.1 b (List.mem_of_getElem? hb')
      have hd := CPo.Derive v (g.ps v (List.mem_of_getElem? hv)).1 (fun a ha => ⟨by have := (hvf a ha).1; omega, by have := (hvf a ha).2; omega⟩)
      have ha := CPo.addZ b ⟨by omega, by omega⟩
      have h1 : sb.length = t := by rw [hb, List.length_map, List.length_take]; omega
      have h2 : sp.length = t := by rw [hp, List.length_map, List.length_take]; omega
      refine law_Derive.l10 l t sb sp v _ b _ (by omega) hv hd hb' ha (by simp; omega) (by simp; omega) (by omega) (ih (t + 1) _ _ (by omega) (by omega) ?_ ?_)
      · rw [drop_take_map _ hb', hb]
      · rw [drop_take_map _ hv, hp]
  exact law_Derive.e0 l hk (loop _ 0 [] [] rfl (by omega) rfl rfl)
end CLw
namespace CRl
theorem derived (p : List ARat) (hc : chk p = 0) (hf : FitP 137438953472 p) : Contract prg 71 [polyPV p] (polyPV ((deriveL (vals p)).map mkR)) :=
  linkworkref52_derived.e0 p _ _ (CRe.Derive p hc hf)
theorem Derive (l : ALaw) (g : Good l) (hf : FitW 1073741824 l) : Contract prg 27 [l.pv] (deriveW l).pv := by
  have hle := g.le
  have hlen := g.len
  have loop : ∀ (j t : Nat) (sp : List (List ARat)), l.pieces.length - t = j → t ≤ l.pieces.length → sp = (l.pieces.take t).map (fun p => (deriveL (vals p)).map mkR) → linkworkref52_Derive.Loop1 t l sp (deriveW l).pv := by
    intro j
    induction j with
    | zero =>
      intro t sp hj ht hp
      rw [List.take_of_length_le (by omega)] at hp
      have e : deriveW l = ⟨l.breaks, sp⟩ := by
        unfold deriveW
        rw [vals_of g.valid, hp]
      rw [e]
      exact linkworkref52_Derive.l11 t l sp (by omega)
    | succ j ih =>
      intro t sp hj ht hp
      obtain ⟨v, hv⟩ : ∃ v, l.pieces[t]? = some v := ⟨_, List.getElem?_eq_getElem (by omega)⟩
      have hvf := hf.2 v (List.mem_of_getElem? hv)
      have hd := derived v (g.ps v (List.mem_of_getElem? hv)).1 (fun a ha => ⟨by have := (hvf a ha).1; omega, by have := (hvf a ha).2; omega⟩)
      have h2 : sp.length = t := by rw [hp, List.length_map, List.length_take]; omega
      refine linkworkref52_Derive.l10 t l sp v _ (by omega) hv hd (by simp; omega) (by omega) (ih (t + 1) _ (by omega) (by omega) ?_)
      rw [drop_take_map _ hv, hp]
  exact linkworkref52_Derive.e0 l (by simp; omega) (loop _ 0 [] rfl (by omega) rfl)
end CRl
end Go.Proofs.YtcgbmnkgmepikaaGreat.Sym
namespace Go.Proofs.YtcgbmnkgmepikaaGreat.Sym.Path
open Go
set_option maxRecDepth 20000
set_option linter.unusedVariables false
namespace linkworklaw52_part
theorem e0 (n d : Int) (mak : ARat) (mak1 : Int) (h1 : Contract prg 107 [(vI n), (vI d)] (.tup [mak.pv, (vI mak1)])) : Contract prg 48 [(vI n), (vI d)] mak.pv :=
  Contract.ofL Tryz.func48 (by kernel_rfl) (L.done mixed tabOk (n := 78) (ns := [1]) (tr := [.reg [], .reg [.none, .none, (.pv (.tup [mak.pv, (vI mak1)]))], .reg []]) (cj h1 True.intro) (by kernel_rfl))
end linkworklaw52_part
namespace linkworklaw52_example
theorem e0 (par par1 : ARat) (h1 : Contract prg 48 [(vI 1), (vI 2)] par.pv) (h2 : Contract prg 48 [(vI 1), (vI 1)] par1.pv) : Contract prg 47 [] ((⟨[(⟨false, [], []⟩ : ARat), par], [[], [(⟨false, [], []⟩ : ARat), par1]]⟩ : ALaw).pv) :=
  Contract.ofL Tryz.func47 (by kernel_rfl) (L.done mixed tabOk (n := 72) (ns := [1, 3, 1, 3, 3]) (tr := [.reg [], .reg [.none, (.pv par.pv), (.slc 0 0 (([(⟨false, [], []⟩ : ARat), par] : List ARat).map ARat.cells)), .none, (.pv par1.pv), (.slc 0 0 (([(⟨false, [], []⟩ : ARat), par1] : List ARat).map ARat.cells)), (.slc 0 0 (([[], [(⟨false, [], []⟩ : ARat), par1]] : List (List ARat)).map (lcell ARat.cells)))]]) (cj h1 (cj (o_bs sz_ARat ([(⟨false, [], []⟩ : ARat), par] : List ARat)) (cj h2 (cj (o_bs sz_ARat ([(⟨false, [], []⟩ : ARat), par1] : List ARat)) (cj (o_bs (sz_l ARat.cells) ([[], [(⟨false, [], []⟩ : ARat), par1]] : List (List ARat))) True.intro))))) (by kernel_rfl))
end linkworklaw52_example
namespace linkworklaw52_awake
theorem e0 (exa : ALaw) (par atV : ARat) (exa1 : ALaw) (dwe : List AArc) (par1 par2 : ARat) (ris : List ARat) (par3 : ARat) (rat : Bool) (v : AArc) (par4 : ARat) (rat1 : Bool) (par5 par6 : ARat) (rat2 : Bool) (h1 : Contract prg 47 [] exa.pv) (h2 : Contract prg 48 [(vI (-1)), (vI 4)] par.pv) (h3 : Contract prg 21 [exa.pv, par.pv] (.tup [atV.pv, .nilI])) (h4 : Contract prg 47 [] exa1.pv) (h5 : Contract prg 35 [exa1.pv] (.tup [(lpv AArc.cells dwe), .nilI])) (h6 : Contract prg 48 [(vI 1), (vI 2)] par1.pv) (h7 : Contract prg 48 [(vI 1), (vI 1)] par2.pv) (h8 : Contract prg 12 [par1.pv, (⟨false, [], []⟩ : ARat).pv, par2.pv, (vI 3)] (.tup [(polyPV ris), .nilI])) (h9 : Contract prg 48 [(vI 1), (vI 4)] par3.pv) (h10 : Contract prg 17 [atV.pv, par3.pv] (vB rat)) (h11 : rat = true) (h12 : dwe.length = 1) (h13 : dwe[0]? = some v) (h14 : Contract prg 48 [(vI 1), (vI 2)] par4.pv) (h15 : Contract prg 17 [v.toV.pv, par4.pv] (vB rat1)) (h16 : rat1 = true) (h17 : Contract prg 48 [(vI 12), (vI 1)] par5.pv) (h18 : Contract prg 48 [(vI (-16)), (vI 1)] par6.pv) (h19 : Contract prg 49 [(polyPV ris), (polyPV [(⟨false, [], []⟩ : ARat), (⟨false, [], []⟩ : ARat), par5, par6])] (vB rat2)) : Contract prg 10 [] (vB rat2) :=
  Contract.ofL Tryz.func10 (by kernel_rfl) (L.done mixed tabOk (n := 90) (ns := [1, 1, 1, 1, 1, 1, 1, 1, 1, 1, 1, 1, 1, 1, 1, 1, 1, 1, 1, 1, 1, 1, 1, 1, 3, 1, 1, 1, 1, 1, 1, 1, 1, 1, 1, 1, 1, 1, 1, 1, 3, 1, 1, 1]) (tr := [.reg [], .reg [(.pv exa.pv), (.pv par.pv), (.pv (.tup [atV.pv, .nilI]))], .reg [(.pv exa1.pv), (.pv (.tup [(lpv AArc.cells dwe), .nilI]))], .reg [(.pv par1.pv), .none, (.pv par2.pv), (.pv (.tup [(polyPV ris), .nilI]))], dr 37 1 [.none, .none, .none, .none, .none, .none, .none, .none, .none, .none, .none, .none, (.pv par3.pv), (.pv (vB rat)), .none, .none, .none, (iI (dwe.length : Int)), .none, (.dec true), .none, .none, (.row 0 (AArc.cells v)), .none, .none, (.pv par4.pv), (.pv (vB rat1)), (.dec true), .none, .none, .none, .none, (.pv par5.pv), (.pv par6.pv), (.slc 0 0 (([(⟨false, [], []⟩ : ARat), (⟨false, [], []⟩ : ARat), par5, par6] : List ARat).map ARat.cells)), (.pv (vB rat2)), (.dec true)]]) (cj h1 (cj h2 (cj h3 (cj h4 (cj h5 (cj h6 (cj h7 (cj h8 (cj (Eq.refl true) (cj (Eq.refl true) (cj (Eq.refl true) (cj (Eq.refl true) (cj (Eq.refl true) (cj (Eq.refl true) (cj h9 (cj (Eq.refl true) (cj h10 (cj h11 (cj h11 (cj (o_len AArc.cells dwe) (cj h11 (cj h11 (cj (deqN_t h12) (cj (deqN_t h12) (cj (o_at AArc.cells (Eq.refl (0 : Int)) h13) (cj (deqN_t h12) (cj (deqN_t h12) (cj (deqN_t h12) (cj h14 (cj (deqN_t h12) (cj h15 (cj (deqN_t h12) (cj h16 (cj h16 (cj h16 (cj h16 (cj h17 (cj h16 (cj h18 (cj h16 (cj (o_bs sz_ARat ([(⟨false, [], []⟩ : ARat), (⟨false, [], []⟩ : ARat), par5, par6] : List ARat)) (cj h16 (cj h19 (cj h16 True.intro)))))))))))))))))))))))))))))))))))))))))))) (by kernel_rfl))
end linkworklaw52_awake
namespace linkworklaw52_long
theorem e0 (x : ARat) (h1 : (x.num.length + x.den.length) < 9223372036854775808) : Contract prg 11 [x.pv] (vB (decide ((((x.num.length + x.den.length) : Nat) : Int) > 4))) :=
  Contract.ofL Tryz.func11 (by kernel_rfl) (L.done mixed tabOk (n := 72) (ns := [1, 1, 1]) (tr := [.reg [], .reg [.none, .none, (iI (x.num.length : Int)), .none, .none, (iI (x.den.length : Int)), (iI (((x.num.length + x.den.length) : Nat) : Int))]]) (cj (o_len wordPV x.num) (cj (o_len wordPV x.den) (cj (bs_addN h1) True.intro))) (by kernel_rfl))
end linkworklaw52_long
end Go.Proofs.YtcgbmnkgmepikaaGreat.Sym.Path
namespace Go.Proofs.YtcgbmnkgmepikaaGreat.Sym
open Go Path CInt
set_option linter.unusedVariables false
namespace C52
theorem part (n d : Int) (hn : InI64 n) (hd : InI64 d) (h0 : d ≠ 0) : Contract prg 48 [vI n, vI d] (mkR (Rat.divInt n d)).pv :=
  linkworklaw52_part.e0 n d _ _ (CRb.Make n d hn hd h0)
def exL : ALaw := ⟨[⟨false, [], []⟩, mkR (Rat.divInt 1 2)], [[], [⟨false, [], []⟩, mkR (Rat.divInt 1 1)]]⟩
theorem example' : Contract prg 47 [] exL.pv :=
  linkworklaw52_example.e0 _ _ (part 1 2 (by unfold InI64; decide) (by unfold InI64; decide) (by decide)) (part 1 1 (by unfold InI64; decide) (by unfold InI64; decide) (by decide))
theorem exL_chk : chkLaw exL = 0 := by decide +kernel
theorem exL_at : atW exL (mkR (Rat.divInt (-1) 4)).val = Rat.divInt 1 4 := by decide +kernel
theorem exL_fit4 : FitW 4 exL := by
  constructor
  · decide +kernel
  · decide +kernel
theorem exL_fit {k : Nat} (h : 4 ≤ k) : FitW k exL := ⟨fun a ha => ⟨Nat.le_trans (exL_fit4.1 a ha).1 h, Nat.le_trans (exL_fit4.1 a ha).2 h⟩, fun p hp a ha => ⟨Nat.le_trans (exL_fit4.2 p hp a ha).1 h, Nat.le_trans (exL_fit4.2 p hp a ha).2 h⟩⟩
theorem exL_dwells : Contract prg 35 [exL.pv] (.tup [lpv AArc.cells [⟨mkR 0, mkR (Rat.divInt 1 2)⟩], .nilI]) := by
  have hk := CLw.Check exL (exL_fit (by omega))
  rw [exL_chk] at hk
  have a1 := CPo.addZ ⟨false, [], []⟩ (by constructor <;> decide)
  have he := CLw.end' exL 0 (by decide) (by decide) (by decide +kernel)
  have a2 := CPo.addZ (mkR (endW exL 0)) (by constructor <;> decide +kernel)
  rw [mkR_val, show endW exL 0 = Rat.divInt 1 2 from by decide +kernel] at a2
  rw [show endW exL 0 = Rat.divInt 1 2 from by decide +kernel] at he
  refine law_Dwells.e0 exL hk ?_
  refine law_Dwells.l13 0 false exL 0 [] [] ⟨false, [], []⟩ _ _ _ (by decide) rfl (by decide) rfl rfl a1 he a2 rfl (by decide) (by decide) ?_
  refine law_Dwells.l10 _ true exL 1 _ [⟨false, [], []⟩, mkR (Rat.divInt 1 1)] (by decide) rfl (by decide) (by decide) ?_
  exact law_Dwells.l14 _ false exL 2 _ (by decide) rfl
theorem awake : Contract prg 10 [] (vB true) := by
  have p1 := part (-1) 4 (by unfold InI64; decide) (by unfold InI64; decide) (by decide)
  have p2 := part 1 2 (by unfold InI64; decide) (by unfold InI64; decide) (by decide)
  have p3 := part 1 1 (by unfold InI64; decide) (by unfold InI64; decide) (by decide)
  have p4 := part 1 4 (by unfold InI64; decide) (by unfold InI64; decide) (by decide)
  have p5 := part 12 1 (by unfold InI64; decide) (by unfold InI64; decide) (by decide)
  have p6 := part (-16) 1 (by unfold InI64; decide) (by unfold InI64; decide) (by decide)
  have hat := CLw.At exL (mkR (Rat.divInt (-1) 4)) exL_chk (exL_fit (by omega)) (mkR_valid _) (by constructor <;> decide +kernel)
  rw [exL_at] at hat
  have hri := CLw.Rise (mkR (Rat.divInt 1 2)) ⟨false, [], []⟩ (mkR (Rat.divInt 1 1)) 3 (by constructor <;> decide +kernel) (by constructor <;> decide) (by constructor <;> decide +kernel) (by decide +kernel)
  have r1 := CBa.Rat (mkR (Rat.divInt 1 4)) (mkR (Rat.divInt 1 4)) (by decide +kernel) (by decide +kernel)
  have r2 := CBa.Rat (mkR (Rat.divInt 1 2)) (mkR (Rat.divInt 1 2)) (by decide +kernel) (by decide +kernel)
  rw [eqR_self] at r1 r2
  have e : (riseL (mkR (Rat.divInt 1 2)).val (⟨false, [], []⟩ : ARat).val (mkR (Rat.divInt 1 1)).val 3).map mkR = [⟨false, [], []⟩, ⟨false, [], []⟩, mkR (Rat.divInt 12 1), mkR (Rat.divInt (-16) 1)] := by
    rw [show riseL (mkR (Rat.divInt 1 2)).val (⟨false, [], []⟩ : ARat).val (mkR (Rat.divInt 1 1)).val 3 = [0, 0, Rat.divInt 12 1, Rat.divInt (-16) 1] from by decide +kernel]
    rfl
  rw [e] at hri
  have r3 := CBa.Rats [⟨false, [], []⟩, ⟨false, [], []⟩, mkR (Rat.divInt 12 1), mkR (Rat.divInt (-16) 1)] [⟨false, [], []⟩, ⟨false, [], []⟩, mkR (Rat.divInt 12 1), mkR (Rat.divInt (-16) 1)] (by decide) (by decide +kernel)
  rw [eqRs_self] at r3
  exact linkworklaw52_awake.e0 _ _ _ _ _ _ _ _ _ _ _ _ _ _ _ _ example' p1 hat example' exL_dwells p2 p3 hri p4 r1 rfl rfl rfl p2 r2 rfl p5 p6 r3
theorem long (x : ARat) (h : x.num.length + x.den.length < 9223372036854775808) : Contract prg 11 [x.pv] (vB (decide (4 < x.num.length + x.den.length))) := by
  have := linkworklaw52_long.e0 x h
  rwa [show decide ((((x.num.length + x.den.length) : Nat) : Int) > 4) = decide (4 < x.num.length + x.den.length) from by congr 1; apply propext; omega] at this
end C52
end Go.Proofs.YtcgbmnkgmepikaaGreat.Sym
namespace Go.Proofs.YtcgbmnkgmepikaaGreat.Sym.Path
open Go
set_option maxRecDepth 20000
set_option linter.unusedVariables false
namespace linkworklaw52_large
@[reducible] noncomputable def fn : Func := Tryz.f20
noncomputable def atK1 : List Itm := focus [0, 2, 0, 0, 2, 1, 2, 0, 0, 2, 0, 0] [.code (bodyOf fn)]
def inv1 (i_3 : Nat) (l : ALaw) : St := ⟨[(1, (.ptr 1 0)), (3, (eI (i_3 : Int)))], [(1, (.lit [(.pv (polyPV l.breaks)), (.pv (lpv (lcell ARat.cells) l.pieces))]))]⟩
@[reducible] noncomputable def Loop1 (i_3 : Nat) (l : ALaw) (r : PV) : Prop := L prg fn atK1 (inv1 i_3 l) r
noncomputable def atK2 : List Itm := focus [0, 2, 0, 0, 2, 1, 2, 0, 0, 2, 0, 0, 0, 0, 0, 2, 1, 2, 2, 2, 2, 0, 0, 2, 0, 0] [.code (bodyOf fn)]
def inv2 (i_4 : Nat) (l : ALaw) : St := ⟨[(1, (.ptr 1 0)), (4, (eI (i_4 : Int)))], [(1, (.lit [(.pv (polyPV l.breaks)), (.pv (lpv (lcell ARat.cells) l.pieces))]))]⟩
@[reducible] noncomputable def Loop2 (i_4 : Nat) (l : ALaw) (r : PV) : Prop := L prg fn atK2 (inv2 i_4 l) r
noncomputable def atK3 : List Itm := focus [0, 2, 0, 0, 2, 1, 2, 0, 0, 2, 0, 0, 0, 0, 0, 2, 1, 2, 2, 2, 2, 0, 0, 2, 0, 0, 0, 0, 0, 2, 0, 2, 0, 0, 0, 0, 2, 1, 2, 0, 2, 0, 0] [.code (bodyOf fn)]
def inv3 (i_4 k_5 : Nat) (l : ALaw) : St := ⟨[(1, (.ptr 1 0)), (4, (eI (i_4 : Int))), (5, (eI (k_5 : Int)))], [(1, (.lit [(.pv (polyPV l.breaks)), (.pv (lpv (lcell ARat.cells) l.pieces))]))]⟩
@[reducible] noncomputable def Loop3 (i_4 k_5 : Nat) (l : ALaw) (r : PV) : Prop := L prg fn atK3 (inv3 i_4 k_5 l) r
theorem e0 (l : ALaw) (h1 : 40 < l.breaks.length) : Contract prg 20 [l.pv] (vB true) :=
  Contract.ofL Tryz.func20 (by kernel_rfl) (L.done mixed tabOk (n := 84) (ns := [1, 1, 1, 1, 1, 1]) (tr := [.reg [], .reg [.none, .none, (iI (l.breaks.length : Int)), .none, .none, .skip, .skip, .skip, .skip, (.dec true)], .auto, .reg []]) (cj (o_len ARat.cells l.breaks) (cj (dltN_t h1) (cj (dltN_t h1) (cj (dltN_t h1) (cj (dltN_t h1) (cj (dltN_t h1) True.intro)))))) (by kernel_rfl))
theorem e1 (l : ALaw) (h1 : l.breaks.length ≤ 40) (h2 : 40 < l.pieces.length) : Contract prg 20 [l.pv] (vB true) :=
  Contract.ofL Tryz.func20 (by kernel_rfl) (L.done mixed tabOk (n := 84) (ns := [1, 1, 1, 1, 1, 1, 1, 1]) (tr := [.reg [], .reg [.none, .none, (iI (l.breaks.length : Int)), .none, .none, .none, .none, (iI (l.pieces.length : Int)), .none, (.dec false)], .dec true, .reg []]) (cj (o_len ARat.cells l.breaks) (cj (dltN_f h1) (cj (dltN_f h1) (cj (dltN_f h1) (cj (o_len (lcell ARat.cells) l.pieces) (cj (dltN_f h1) (cj (dltN_f h1) (cj (dltN_t h2) True.intro)))))))) (by kernel_rfl))
theorem e2 (l : ALaw) {r : PV} (h1 : l.breaks.length ≤ 40) (h2 : l.pieces.length ≤ 40) (hL : Loop1 0 l r) : Contract prg 20 [l.pv] r :=
  Contract.ofL Tryz.func20 (by kernel_rfl) (L.go mixed tabOk (n := 96) (ns := [1, 1, 1, 1, 1, 1, 1, 1]) (tr := [.reg [], .reg [.none, .none, (iI (l.breaks.length : Int)), .none, .none, .none, .none, (iI (l.pieces.length : Int)), .none, (.dec false)], .dec false, .reg [], .keep [1, 3]]) (cj (o_len ARat.cells l.breaks) (cj (dltN_f h1) (cj (dltN_f h1) (cj (dltN_f h1) (cj (o_len (lcell ARat.cells) l.pieces) (cj (dltN_f h1) (cj (dltN_f h1) (cj (dltN_f h2) True.intro)))))))) (by kernel_rfl) hL)
theorem l10 (i_3 : Nat) (l : ALaw) (v : ARat) (lon : Bool) (h1 : i_3 < l.breaks.length) (h2 : l.breaks[i_3]? = some v) (h3 : Contract prg 11 [v.pv] (vB lon)) (h4 : lon = true) : Loop1 i_3 l (vB true) :=
  L.done mixed tabOk (n := 135) (ns := [1, 1, 3, 1, 1]) (tr := [.auto, .reg [.none, .none, .none, (iI (l.breaks.length : Int))], .dec true, .reg [.none, .none, .none, (.row i_3 (ARat.cells v)), .none, (.pv (vB lon))], .dec true, .reg []]) (cj (o_len ARat.cells l.breaks) (cj (dltN_t h1) (cj (o_at ARat.cells (Eq.refl (((i_3 : Nat) : Int) : Int)) h2) (cj h3 (cj h4 True.intro))))) (by kernel_rfl)
theorem l11 (i_3 : Nat) (l : ALaw) (v : ARat) (lon : Bool) {r : PV} (h1 : i_3 < l.breaks.length) (h2 : l.breaks[i_3]? = some v) (h3 : Contract prg 11 [v.pv] (vB lon)) (h4 : lon = false) (h5 : (i_3 + 1) < 9223372036854775808) (hL : Loop1 (i_3 + 1) l r) : Loop1 i_3 l r :=
  L.go mixed tabOk (n := 138) (ns := [1, 1, 3, 1, 1, 1]) (tr := [.auto, .reg [.none, .none, .none, (iI (l.breaks.length : Int))], .dec true, .reg [.none, .none, .none, (.row i_3 (ARat.cells v)), .none, (.pv (vB lon))], .dec false, .reg [.none, (iI (((i_3 + 1) : Nat) : Int))], .keep [1, 3]]) (cj (o_len ARat.cells l.breaks) (cj (dltN_t h1) (cj (o_at ARat.cells (Eq.refl (((i_3 : Nat) : Int) : Int)) h2) (cj h3 (cj h4 (cj (bs_addN h5) True.intro)))))) (by kernel_rfl) hL
theorem l12 (i_3 : Nat) (l : ALaw) {r : PV} (h1 : l.breaks.length ≤ i_3) (hL : Loop2 0 l r) : Loop1 i_3 l r :=
  L.go mixed tabOk (n := 138) (ns := [1, 1]) (tr := [.auto, .reg [.none, .none, .none, (iI (l.breaks.length : Int))], .dec false, .reg [], .keep [1, 4]]) (cj (o_len ARat.cells l.breaks) (cj (dltN_f h1) True.intro)) (by kernel_rfl) hL
theorem l20 (i_4 : Nat) (l : ALaw) (v : List ARat) (h1 : i_4 < l.pieces.length) (h2 : l.pieces[i_4]? = some v) (h3 : 80 < v.length) : Loop2 i_4 l (vB true) :=
  L.done mixed tabOk (n := 180) (ns := [1, 1, 3, 1, 1]) (tr := [.auto, .reg [.none, .none, .none, (iI (l.pieces.length : Int))], .dec true, .reg [.none, .none, .none, (.row i_4 ((lcell ARat.cells) v)), .none, (iI (v.length : Int))], .dec true, .reg []]) (cj (o_len (lcell ARat.cells) l.pieces) (cj (dltN_t h1) (cj (o_at (lcell ARat.cells) (Eq.refl (((i_4 : Nat) : Int) : Int)) h2) (cj (o_len ARat.cells v) (cj (dltN_t h3) True.intro))))) (by kernel_rfl)
theorem l21 (i_4 : Nat) (l : ALaw) (v : List ARat) {r : PV} (h1 : i_4 < l.pieces.length) (h2 : l.pieces[i_4]? = some v) (h3 : v.length ≤ 80) (hL : Loop3 i_4 0 l r) : Loop2 i_4 l r :=
  L.go mixed tabOk (n := 189) (ns := [1, 1, 3, 1, 1]) (tr := [.auto, .reg [.none, .none, .none, (iI (l.pieces.length : Int))], .dec true, .reg [.none, .none, .none, (.row i_4 ((lcell ARat.cells) v)), .none, (iI (v.length : Int))], .dec false, .reg [], .keep [1, 4, 5]]) (cj (o_len (lcell ARat.cells) l.pieces) (cj (dltN_t h1) (cj (o_at (lcell ARat.cells) (Eq.refl (((i_4 : Nat) : Int) : Int)) h2) (cj (o_len ARat.cells v) (cj (dltN_f h3) True.intro))))) (by kernel_rfl) hL
theorem l22 (i_4 : Nat) (l : ALaw) (h1 : l.pieces.length ≤ i_4) : Loop2 i_4 l (vB false) :=
  L.done mixed tabOk (n := 171) (ns := [1, 1]) (tr := [.auto, .reg [.none, .none, .none, (iI (l.pieces.length : Int))], .dec false, .reg []]) (cj (o_len (lcell ARat.cells) l.pieces) (cj (dltN_f h1) True.intro)) (by kernel_rfl)
theorem l30 (i_4 k_5 : Nat) (l : ALaw) (v : List ARat) (v1 : ARat) (lon : Bool) (h1 : l.pieces[i_4]? = some v) (h2 : k_5 < v.length) (h3 : v[k_5]? = some v1) (h4 : Contract prg 11 [v1.pv] (vB lon)) (h5 : lon = true) : Loop3 i_4 k_5 l (vB true) :=
  L.done mixed tabOk (n := 228) (ns := [3, 1, 1, 3, 3, 1, 1]) (tr := [.auto, .reg [.none, .none, .none, .none, (.row i_4 ((lcell ARat.cells) v)), .none, (iI (v.length : Int))], .dec true, .reg [.none, .none, .none, (.row i_4 ((lcell ARat.cells) v)), .none, .none, (.row k_5 (ARat.cells v1)), .none, (.pv (vB lon))], .dec true, .reg []]) (cj (o_at (lcell ARat.cells) (Eq.refl (((i_4 : Nat) : Int) : Int)) h1) (cj (o_len ARat.cells v) (cj (dltN_t h2) (cj (o_at (lcell ARat.cells) (Eq.refl (((i_4 : Nat) : Int) : Int)) h1) (cj (o_at ARat.cells (Eq.refl (((k_5 : Nat) : Int) : Int)) h3) (cj h4 (cj h5 True.intro))))))) (by kernel_rfl)
theorem l31 (i_4 k_5 : Nat) (l : ALaw) (v : List ARat) (v1 : ARat) (lon : Bool) {r : PV} (h1 : l.pieces[i_4]? = some v) (h2 : k_5 < v.length) (h3 : v[k_5]? = some v1) (h4 : Contract prg 11 [v1.pv] (vB lon)) (h5 : lon = false) (h6 : (k_5 + 1) < 9223372036854775808) (hL : Loop3 i_4 (k_5 + 1) l r) : Loop3 i_4 k_5 l r :=
  L.go mixed tabOk (n := 231) (ns := [3, 1, 1, 3, 3, 1, 1, 1]) (tr := [.auto, .reg [.none, .none, .none, .none, (.row i_4 ((lcell ARat.cells) v)), .none, (iI (v.length : Int))], .dec true, .reg [.none, .none, .none, (.row i_4 ((lcell ARat.cells) v)), .none, .none, (.row k_5 (ARat.cells v1)), .none, (.pv (vB lon))], .dec false, .reg [.none, (iI (((k_5 + 1) : Nat) : Int))], .keep [1, 4, 5]]) (cj (o_at (lcell ARat.cells) (Eq.refl (((i_4 : Nat) : Int) : Int)) h1) (cj (o_len ARat.cells v) (cj (dltN_t h2) (cj (o_at (lcell ARat.cells) (Eq.refl (((i_4 : Nat) : Int) : Int)) h1) (cj (o_at ARat.cells (Eq.refl (((k_5 : Nat) : Int) : Int)) h3) (cj h4 (cj h5 (cj (bs_addN h6) True.intro)))))))) (by kernel_rfl) hL
theorem l32 (i_4 k_5 : Nat) (l : ALaw) (v : List ARat) {r : PV} (h1 : l.pieces[i_4]? = some v) (h2 : v.length ≤ k_5) (h3 : (i_4 + 1) < 9223372036854775808) (hL : Loop2 (i_4 + 1) l r) : Loop3 i_4 k_5 l r :=
  L.go mixed tabOk (n := 222) (ns := [3, 1, 1, 1]) (tr := [.auto, .reg [.none, .none, .none, .none, (.row i_4 ((lcell ARat.cells) v)), .none, (iI (v.length : Int))], .dec false, .reg [.none, (iI (((i_4 + 1) : Nat) : Int))], .keep [1, 4]]) (cj (o_at (lcell ARat.cells) (Eq.refl (((i_4 : Nat) : Int) : Int)) h1) (cj (o_len ARat.cells v) (cj (dltN_f h2) (cj (bs_addN h3) True.intro)))) (by kernel_rfl) hL
end linkworklaw52_large
end Go.Proofs.YtcgbmnkgmepikaaGreat.Sym.Path
namespace Go.Proofs.YtcgbmnkgmepikaaGreat.Sym
open Go Path CInt
set_option linter.unusedVariables false
theorem chkP_of : ∀ {ps : List (List ARat)}, (∀ p ∈ ps, chk p = 0 ∧ p.length ≤ 9) → chkP ps = 0
  | [], _ => rfl
  | a :: r, h => by
    obtain ⟨h1, h2⟩ := h a (List.mem_cons_self ..)
    rw [chkP, h1, show decide ((0 : Int) ≠ 0) = false from rfl, cond_false]
    rw [show Nat.blt 9 a.length = false from by
      cases hb : Nat.blt 9 a.length with
      | false => rfl
      | true => have : 9 < a.length := by simpa [Nat.blt_eq] using hb
                omega, cond_false]
    exact chkP_of (fun p hp => h p (List.mem_cons_of_mem _ hp))
theorem chkB_zero {l : ALaw} (h : chkLaw l = 0) : chkB none l.breaks = 0 := by
  unfold chkLaw at h
  split at h
  · cases h
  · split at h
    · cases h
    · unfold chkR at h
      refine Classical.byContradiction fun hb => ?_
      rw [decide_eq_true hb, cond_true] at h
      exact hb h
theorem chk_derive {l : ALaw} (h : chkLaw l = 0) : chkLaw (deriveW l) = 0 := by
  have g := good_of h
  have hb := chkB_zero h
  have e : (deriveW l).breaks = l.breaks := vals_of g.valid
  have hlen := g.len
  have hn0 := g.n0
  have hle := g.le
  have hp : (deriveW l).pieces.length = l.pieces.length := by unfold deriveW; simp
  unfold chkLaw
  rw [if_neg (by rw [e, hp]; omega), if_neg (by rw [e]; omega)]
  unfold chkR
  rw [e, hb]
  refine chkP_of (fun p hp => ?_)
  unfold deriveW at hp
  obtain ⟨q, hq, rfl⟩ := List.mem_map.1 hp
  have h9 := (g.ps q hq).2
  have hd := len_deriveL (vals q)
  have hv : (vals q).length = q.length := by unfold vals; rw [List.length_map]
  exact ⟨chk_map (lastZ_deriveL _) (by omega), by rw [List.length_map]; omega⟩
theorem fitW_derive {l : ALaw} {k : Nat} (g : Good l) (hk : 1 ≤ k) (h : FitW k l) : FitW (k + 2) (deriveW l) := by
  have e : (deriveW l).breaks = l.breaks := vals_of g.valid
  constructor
  · rw [e]; exact fun a ha => ⟨by have := (h.1 a ha).1; omega, by have := (h.1 a ha).2; omega⟩
  · intro p hp
    unfold deriveW at hp
    obtain ⟨q, hq, rfl⟩ := List.mem_map.1 hp
    have h9 := (g.ps q hq).2
    exact fit_mapk (fl_deriveL (by unfold vals; rw [List.length_map]; omega) (fl_vals (h.2 q hq) hk))
namespace C52
def Small (l : ALaw) : Prop := l.breaks.length ≤ 40 ∧ l.pieces.length ≤ 40 ∧ FitW 4 l ∧ ∀ p ∈ l.pieces, p.length ≤ 80
def Held (l : ALaw) : Prop := (∀ a ∈ l.breaks, a.num.length + a.den.length < 9223372036854775808) ∧ ∀ p ∈ l.pieces, ∀ a ∈ p, a.num.length + a.den.length < 9223372036854775808
theorem large (l : ALaw) (hh : Held l) : Contract prg 20 [l.pv] (vB true) ∨ (Small l ∧ Contract prg 20 [l.pv] (vB false)) := by
  by_cases h1 : 40 < l.breaks.length
  · exact Or.inl (linkworklaw52_large.e0 l h1)
  by_cases h2 : 40 < l.pieces.length
  · exact Or.inl (linkworklaw52_large.e1 l (by omega) h2)
  have small : ∀ {a : ARat}, ¬ 4 < a.num.length + a.den.length → a.num.length ≤ 4 ∧ a.den.length ≤ 4 := fun h => by omega
  have loop3 : ∀ (i : Nat) (v : List ARat), l.pieces[i]? = some v → v.length ≤ 80 → (linkworklaw52_large.Loop2 (i + 1) l (vB true) ∨ ((∀ p ∈ l.pieces.drop (i + 1), FitP 4 p ∧ p.length ≤ 80) ∧ linkworklaw52_large.Loop2 (i + 1) l (vB false))) →
      ∀ (j k : Nat), v.length - k = j → (linkworklaw52_large.Loop3 i k l (vB true) ∨ (FitP 4 (v.drop k) ∧ (∀ p ∈ l.pieces.drop (i + 1), FitP 4 p ∧ p.length ≤ 80) ∧ linkworklaw52_large.Loop3 i k l (vB false))) := by
    intro i v hv hlv hnext j
    have hi := (List.getElem?_eq_some_iff.1 hv).1
    induction j with
    | zero =>
      intro k hj
      rcases hnext with h | ⟨h, h'⟩
      · exact Or.inl (linkworklaw52_large.l32 i k l v hv (by omega) (by omega) h)
      · refine Or.inr ⟨?_, h, linkworklaw52_large.l32 i k l v hv (by omega) (by omega) h'⟩
        rw [List.drop_of_length_le (by omega)]; exact fun a ha => by cases ha
    | succ j ih =>
      intro k hj
      obtain ⟨u, hu⟩ : ∃ u, v[k]? = some u := ⟨_, List.getElem?_eq_getElem (by omega)⟩
      have hl := long u (hh.2 v (List.mem_of_getElem? hv) u (List.mem_of_getElem? hu))
      by_cases h4 : 4 < u.num.length + u.den.length
      · rw [decide_eq_true h4] at hl
        exact Or.inl (linkworklaw52_large.l30 i k l v u _ hv (by omega) hu hl rfl)
      · rw [decide_eq_false h4] at hl
        rcases ih (k + 1) (by omega) with h | ⟨h, h', h''⟩
        · exact Or.inl (linkworklaw52_large.l31 i k l v u _ hv (by omega) hu hl rfl (by omega) h)
        · refine Or.inr ⟨?_, h', linkworklaw52_large.l31 i k l v u _ hv (by omega) hu hl rfl (by omega) h''⟩
          rw [drop_cons hu]
          intro a ha
          rcases List.mem_cons.1 ha with e | ha
          · rw [e]; exact small h4
          · exact h a ha
  have loop2 : ∀ (j i : Nat), l.pieces.length - i = j → (linkworklaw52_large.Loop2 i l (vB true) ∨ ((∀ p ∈ l.pieces.drop i, FitP 4 p ∧ p.length ≤ 80) ∧ linkworklaw52_large.Loop2 i l (vB false))) := by
    intro j
    induction j with
    | zero =>
      intro i hj
      refine Or.inr ⟨?_, linkworklaw52_large.l22 i l (by omega)⟩
      rw [List.drop_of_length_le (by omega)]; exact fun a ha => by cases ha
    | succ j ih =>
      intro i hj
      obtain ⟨v, hv⟩ : ∃ v, l.pieces[i]? = some v := ⟨_, List.getElem?_eq_getElem (by omega)⟩
      by_cases h80 : 80 < v.length
      · exact Or.inl (linkworklaw52_large.l20 i l v (by omega) hv h80)
      · rcases loop3 i v hv (by omega) (ih (i + 1) (by omega)) _ 0 rfl with h | ⟨h, h', h''⟩
        · exact Or.inl (linkworklaw52_large.l21 i l v (by omega) hv (by omega) h)
        · refine Or.inr ⟨?_, linkworklaw52_large.l21 i l v (by omega) hv (by omega) h''⟩
          rw [drop_cons hv]
          intro p hp
          rcases List.mem_cons.1 hp with e | hp
          · rw [e]; exact ⟨by rwa [List.drop_zero] at h, by omega⟩
          · exact h' p hp
  have loop1 : ∀ (j i : Nat), l.breaks.length - i = j → (linkworklaw52_large.Loop1 i l (vB true) ∨ (FitP 4 (l.breaks.drop i) ∧ (∀ p ∈ l.pieces, FitP 4 p ∧ p.length ≤ 80) ∧ linkworklaw52_large.Loop1 i l (vB false))) := by
    intro j
    induction j with
    | zero =>
      intro i hj
      rcases loop2 _ 0 rfl with h | ⟨h, h'⟩
      · exact Or.inl (linkworklaw52_large.l12 i l (by omega) h)
      · rw [List.drop_zero] at h
        refine Or.inr ⟨?_, h, linkworklaw52_large.l12 i l (by omega) h'⟩
        rw [List.drop_of_length_le (by omega)]; exact fun a ha => by cases ha
    | succ j ih =>
      intro i hj
      obtain ⟨u, hu⟩ : ∃ u, l.breaks[i]? = some u := ⟨_, List.getElem?_eq_getElem (by omega)⟩
      have hl := long u (hh.1 u (List.mem_of_getElem? hu))
      by_cases h4 : 4 < u.num.length + u.den.length
      · rw [decide_eq_true h4] at hl
        exact Or.inl (linkworklaw52_large.l10 i l u _ (by omega) hu hl rfl)
      · rw [decide_eq_false h4] at hl
        rcases ih (i + 1) (by omega) with h | ⟨h, h', h''⟩
        · exact Or.inl (linkworklaw52_large.l11 i l u _ (by omega) hu hl rfl (by omega) h)
        · refine Or.inr ⟨?_, h', linkworklaw52_large.l11 i l u _ (by omega) hu hl rfl (by omega) h''⟩
          rw [drop_cons hu]
          intro a ha
          rcases List.mem_cons.1 ha with e | ha
          · rw [e]; exact small h4
          · exact h a ha
  rcases loop1 _ 0 rfl with h | ⟨h, h', h''⟩
  · exact Or.inl (linkworklaw52_large.e2 l (by omega) (by omega) h)
  · rw [List.drop_zero] at h
    exact Or.inr ⟨⟨by omega, by omega, ⟨h, fun p hp => (h' p hp).1⟩, fun p hp => (h' p hp).2⟩, linkworklaw52_large.e2 l (by omega) (by omega) h''⟩
end C52
end Go.Proofs.YtcgbmnkgmepikaaGreat.Sym
namespace Go.Proofs.YtcgbmnkgmepikaaGreat.Sym
open Go Go.RowKit Go.ChangeShapes Go.WideShapes
set_option linter.unusedVariables false
theorem opens_rats : Opens prg 29 (fun l : List ARat => [polyPV l]) (fun l => ∀ a ∈ l, LenR a) := by
  intro H enc w base spare held fuel cs x h hwt
  obtain ⟨l, h1, _, h2⟩ := opens_slice (s := 3) (show prg.underlying 29 = some (.slice 24) by kernel_rfl) (by kernel_rfl) (by omega) (sb := 56) (by kernel_rfl) (fun _ => rfl) opens_ARat enc w base spare held fuel cs x h hwt
  exact ⟨l, h1, h2⟩
theorem opens_poly : Opens prg 30 (lcell ARat.cells) (fun l => ∀ a ∈ l, LenR a) := by
  intro H enc w base spare held fuel cs x h hwt
  obtain ⟨l, h1, _, h2⟩ := opens_slice (s := 3) (show prg.underlying 30 = some (.slice 24) by kernel_rfl) (by kernel_rfl) (by omega) (sb := 56) (by kernel_rfl) (fun _ => rfl) opens_ARat enc w base spare held fuel cs x h hwt
  exact ⟨l, h1, h2⟩
theorem opens_polys : Opens prg 45 (fun l : List (List ARat) => [lpv (lcell ARat.cells) l]) (fun l => ∀ p ∈ l, ∀ a ∈ p, LenR a) := by
  intro H enc w base spare held fuel cs x h hwt
  obtain ⟨l, h1, _, h2⟩ := opens_slice (s := 1) (show prg.underlying 45 = some (.slice 30) by kernel_rfl) (by kernel_rfl) (by omega) (sb := 24) (by kernel_rfl) (fun _ => rfl) opens_poly enc w base spare held fuel cs x h hwt
  exact ⟨l, h1, h2⟩
theorem split2 {α : Type} (cs : List α) (a b : Nat) (h : cs.length = a + b) : cs = (cs.drop 0).take a ++ (cs.drop a).take b := by
  have e : (cs.drop a).take b = cs.drop a := List.take_of_length_le (by rw [List.length_drop]; omega)
  rw [e, List.drop_zero, List.take_append_drop]
theorem reach_lt : reachBytes < 140737488355328 := by decide
theorem lenR_sum {a : ARat} (h : LenR a) : a.num.length + a.den.length < 9223372036854775808 := by
  have := h.1
  have := h.2
  have := reach_lt
  omega
theorem opens_ALaw : Opens prg 47 ALaw.cells C52.Held := by
  intro H enc w base spare held fuel cs x h hwt
  obtain ⟨fs, hu, e⟩ := flds_spec (show fldsOf (prg.underlying 47) = some [(29, 0), (45, 1)] by kernel_rfl)
  have hl := opens_struct hu h
  have hl : cs.length = 1 + 1 := hl.trans (by kernel_rfl)
  obtain ⟨a, r0, q0⟩ := opens_field hu h hwt 0 0 1 (e 0) (by kernel_rfl) opens_rats
  obtain ⟨b, r1, q1⟩ := opens_field hu h hwt 1 1 1 (e 1) (by kernel_rfl) opens_polys
  refine ⟨⟨a, b⟩, ?_, fun u hu => lenR_sum (q0 u hu), fun p hp u hu => lenR_sum (q1 p hp u hu)⟩
  rw [split2 cs 1 1 hl]
  exact rdCells_append r0 r1
end Go.Proofs.YtcgbmnkgmepikaaGreat.Sym
namespace Go.Proofs.YtcgbmnkgmepikaaGreat.Sym
open Go Path CInt
set_option linter.unusedVariables false
def mkG (a b : Rat) : ARange := ⟨mkR a, mkR b⟩
def ARange.ok (r : ARange) : Bool := r.lo.valid && (r.hi.valid && decide (r.lo.val ≤ r.hi.val))
def loG (r : ARange) : Rat := bif r.ok then r.lo.val else 0
def hiG (r : ARange) : Rat := bif r.ok then r.hi.val else 0
theorem ok_parts {r : ARange} (h : r.ok = true) : r.lo.valid = true ∧ r.hi.valid = true ∧ r.lo.val ≤ r.hi.val := by
  unfold ARange.ok at h
  simp only [Bool.and_eq_true, decide_eq_true_eq] at h
  exact h
theorem loG_le (r : ARange) : loG r ≤ hiG r := by
  unfold loG hiG
  cases h : r.ok with
  | true => exact (ok_parts h).2.2
  | false => exact Rat.le_refl
theorem ok_mkG {a b : Rat} (h : a ≤ b) : (mkG a b).ok = true := by
  unfold ARange.ok mkG
  simp only [mkR_valid, mkR_val, decide_eq_true h, Bool.and_self]
theorem loG_mk {a b : Rat} (h : a ≤ b) : loG (mkG a b) = a := by unfold loG; rw [ok_mkG h, cond_true]; exact mkR_val a
theorem hiG_mk {a b : Rat} (h : a ≤ b) : hiG (mkG a b) = b := by unfold hiG; rw [ok_mkG h, cond_true]; exact mkR_val b
theorem mkG_of {r : ARange} (h : r.ok = true) : mkG (loG r) (hiG r) = r := by
  obtain ⟨h1, h2, h3⟩ := ok_parts h
  unfold mkG loG hiG
  rw [h, cond_true, cond_true, mkR_of h1, mkR_of h2]
theorem mkG_not {r : ARange} (h : r.ok = false) : mkG (loG r) (hiG r) = ⟨⟨false, [], []⟩, ⟨false, [], []⟩⟩ := by
  unfold mkG loG hiG
  rw [h]; rfl
abbrev FitG (k : Nat) (r : ARange) : Prop := (r.lo.num.length ≤ k ∧ r.lo.den.length ≤ k) ∧ (r.hi.num.length ≤ k ∧ r.hi.den.length ≤ k)
theorem fit_mkG {a b : Rat} {k : Nat} (ha : ht a ≤ k) (hb : ht b ≤ k) : FitG k (mkG a b) := ⟨fit_mkRk ha, fit_mkRk hb⟩
theorem ht_loG {r : ARange} {k : Nat} (h : FitG k r) (hk : 1 ≤ k) : ht (loG r) ≤ k := by
  unfold loG
  cases r.ok with
  | true => exact ht_fit h.1.1 h.1.2 hk
  | false => exact Nat.le_trans (Nat.le_of_eq ht_zero) hk
theorem ht_hiG {r : ARange} {k : Nat} (h : FitG k r) (hk : 1 ≤ k) : ht (hiG r) ≤ k := by
  unfold hiG
  cases r.ok with
  | true => exact ht_fit h.2.1 h.2.2 hk
  | false => exact Nat.le_trans (Nat.le_of_eq ht_zero) hk
def mulLo (a b c d : Rat) : Rat := minR (minR (minR (a * c) (a * d)) (b * c)) (b * d)
def mulHi (a b c d : Rat) : Rat := maxR (maxR (maxR (a * c) (a * d)) (b * c)) (b * d)
theorem mulLo_le (a b c d : Rat) : mulLo a b c d ≤ mulHi a b c d := by
  unfold mulLo mulHi
  have h1 := minR_le_r (minR (minR (a * c) (a * d)) (b * c)) (b * d)
  have h2 := maxR_ge_r (maxR (maxR (a * c) (a * d)) (b * c)) (b * d)
  grind
theorem ht_mulLo {a b c d : Rat} {k m : Nat} (ha : ht a ≤ k) (hb : ht b ≤ k) (hc : ht c ≤ m) (hd : ht d ≤ m) : ht (mulLo a b c d) ≤ k + m := by
  have h1 := ht_mul a c
  have h2 := ht_mul a d
  have h3 := ht_mul b c
  have h4 := ht_mul b d
  unfold mulLo
  exact ht_min _ _ (ht_min _ _ (ht_min _ _ (by omega) (by omega)) (by omega)) (by omega)
theorem ht_mulHi {a b c d : Rat} {k m : Nat} (ha : ht a ≤ k) (hb : ht b ≤ k) (hc : ht c ≤ m) (hd : ht d ≤ m) : ht (mulHi a b c d) ≤ k + m := by
  have h1 := ht_mul a c
  have h2 := ht_mul a d
  have h3 := ht_mul b c
  have h4 := ht_mul b d
  unfold mulHi
  exact ht_max _ _ (ht_max _ _ (ht_max _ _ (by omega) (by omega)) (by omega)) (by omega)
namespace CIv
theorem Valid (r : ARange) (h : FitG 68719476736 r) : Contract prg 137 [r.pv] (vB r.ok) := by
  have h1 := CFr.Valid r.lo ⟨by omega, by omega⟩
  have h2 := CFr.Valid r.hi ⟨by omega, by omega⟩
  have h3 := CFr.Cmp r.lo r.hi ⟨by omega, by omega⟩ ⟨by omega, by omega⟩
  unfold ARange.ok
  cases hv : r.lo.valid with
  | false => exact interval_Valid.e2 r _ h1 hv
  | true =>
    cases hw : r.hi.valid with
    | false => exact interval_Valid.e1 r _ _ h1 hv h2 hw
    | true =>
      have := interval_Valid.e0 r _ _ _ h1 hv h2 hw h3
      rwa [show decide (cmpR r.lo.val r.hi.val ≤ 0) = decide (r.lo.val ≤ r.hi.val) from decide_eq_decide.2 cmpR_le] at this
theorem clean (r : ARange) (h : FitG 68719476736 r) : Contract prg 89 [r.pv] (mkG (loG r) (hiG r)).pv := by
  have hv := Valid r h
  cases hk : r.ok with
  | false => rw [mkG_not hk]; exact interval_clean.e0 r _ hv hk
  | true =>
    obtain ⟨h1, h2, h3⟩ := ok_parts hk
    have := interval_clean.e1 r _ _ _ hv hk (CPo.addZ r.lo ⟨by omega, by omega⟩) (CPo.addZ r.hi ⟨by omega, by omega⟩)
    rw [mkR_of h1, mkR_of h2] at this
    rw [mkG_of hk]; exact this
theorem Point (x : Rat) (hx : ht x ≤ 68719476736) : Contract prg 132 [(mkR x).pv] (mkG x x).pv := interval_Point.e0 _ _ _ (QF.addZ x hx) (QF.addZ x hx)
theorem Add (r s : ARange) (h : FitG 68719476736 r) (h' : FitG 68719476736 s) : Contract prg 133 [r.pv, s.pv] (mkG (loG r + loG s) (hiG r + hiG s)).pv :=
  interval_Add.e0 r s _ _ _ _ (clean r h) (clean s h') (QF.Add _ _ (ht_loG h (by omega)) (ht_loG h' (by omega))) (QF.Add _ _ (ht_hiG h (by omega)) (ht_hiG h' (by omega)))
theorem Hull (r s : ARange) (h : FitG 68719476736 r) (h' : FitG 68719476736 s) : Contract prg 86 [r.pv, s.pv] (mkG (minR (loG r) (loG s)) (maxR (hiG r) (hiG s))).pv :=
  interval_Hull.e0 r s _ _ _ _ (clean r h) (clean s h') (QF.Min _ _ (ht_loG h (by omega)) (ht_loG h' (by omega))) (QF.Max _ _ (ht_hiG h (by omega)) (ht_hiG h' (by omega)))
theorem Mul (r s : ARange) (h : FitG 34359738368 r) (h' : FitG 34359738368 s) : Contract prg 134 [r.pv, s.pv] (mkG (mulLo (loG r) (hiG r) (loG s) (hiG s)) (mulHi (loG r) (hiG r) (loG s) (hiG s))).pv := by
  have a1 := ht_loG h (by omega)
  have a2 := ht_hiG h (by omega)
  have a3 := ht_loG h' (by omega)
  have a4 := ht_hiG h' (by omega)
  have b1 := ht_mul (loG r) (loG s)
  have b2 := ht_mul (loG r) (hiG s)
  have b3 := ht_mul (hiG r) (loG s)
  have b4 := ht_mul (hiG r) (hiG s)
  have m1 := QF.Mul (loG r) (loG s) (by omega) (by omega)
  have m2 := QF.Mul (loG r) (hiG s) (by omega) (by omega)
  have m3 := QF.Mul (hiG r) (loG s) (by omega) (by omega)
  have m4 := QF.Mul (hiG r) (hiG s) (by omega) (by omega)
  refine interval_Mul.e0 r s _ _ _ _ _ _ _ (clean r ⟨by omega, by omega⟩) (clean s ⟨by omega, by omega⟩) m1 (QF.addZ _ (by omega)) m2 m3 m4 ?_
  unfold mulLo mulHi
  generalize loG r * loG s = w at *
  generalize loG r * hiG s = x at *
  generalize hiG r * loG s = y at *
  generalize hiG r * hiG s = z at *
  have c1 := ht_min w x (k := 68719476736) (by omega) (by omega)
  have c2 := ht_max w x (k := 68719476736) (by omega) (by omega)
  have d1 := ht_min _ y c1 (by omega)
  have d2 := ht_max _ y c2 (by omega)
  refine interval_Mul.l10 0 (mkG w w) _ _ _ _ _ _ (by omega) rfl (QF.Min w x (by omega) (by omega)) (QF.Max w x (by omega) (by omega)) (by omega) ?_
  refine interval_Mul.l10 1 (mkG (minR w x) (maxR w x)) _ _ _ _ _ _ (by omega) rfl (QF.Min _ y c1 (by omega)) (QF.Max _ y c2 (by omega)) (by omega) ?_
  refine interval_Mul.l10 2 (mkG (minR (minR w x) y) (maxR (maxR w x) y)) _ _ _ _ _ _ (by omega) rfl (QF.Min _ z d1 (by omega)) (QF.Max _ z d2 (by omega)) (by omega) ?_
  exact interval_Mul.l11 3 (mkG (minR (minR (minR w x) y) z) (maxR (maxR (maxR w x) y) z)) _ _ _ (by omega)
end CIv
namespace CJv
theorem Valid (r : ARange) (h : FitG 68719476736 r) : Contract prg 167 [r.pv] (vB r.ok) := by
  have h1 := CRb.Valid r.lo ⟨by omega, by omega⟩
  have h2 := CRb.Valid r.hi ⟨by omega, by omega⟩
  have h3 := CRb.Cmp r.lo r.hi ⟨by omega, by omega⟩ ⟨by omega, by omega⟩
  unfold ARange.ok
  cases hv : r.lo.valid with
  | false => exact linkworkref03_Valid.e2 r _ h1 hv
  | true =>
    cases hw : r.hi.valid with
    | false => exact linkworkref03_Valid.e1 r _ _ h1 hv h2 hw
    | true =>
      have := linkworkref03_Valid.e0 r _ _ _ h1 hv h2 hw h3
      rwa [show decide (cmpR r.lo.val r.hi.val ≤ 0) = decide (r.lo.val ≤ r.hi.val) from decide_eq_decide.2 cmpR_le] at this
theorem given (r : ARange) (h : FitG 68719476736 r) : Contract prg 142 [r.pv] (mkG (loG r) (hiG r)).pv := by
  have hv := Valid r h
  cases hk : r.ok with
  | false => rw [mkG_not hk]; exact linkworkref03_given.e0 r _ hv hk
  | true => rw [mkG_of hk]; exact linkworkref03_given.e1 r _ hv hk
theorem span (a : Rat) (q : List Rat) (hl : q.length < 4611686018427387904) (ha : ht a ≤ 68719476736) (hq : Fl 68719476736 q) : Contract prg 143 [polyPV (mkR a :: q.map mkR)] (mkG (q.foldl minR a) (q.foldl maxR a)).pv := by
  have loop : ∀ (j t : Nat) (u v : Rat), (a :: q).length - t = j → t ≤ (a :: q).length → ht u ≤ 68719476736 → ht v ≤ 68719476736 → linkworkref03_span.Loop1 ((a :: q).map mkR) t (mkG u v) (mkG (((a :: q).drop t).foldl minR u) (((a :: q).drop t).foldl maxR v)).pv := by
    intro j
    induction j with
    | zero =>
      intro t u v hj ht _ _
      rw [List.drop_of_length_le (by omega)]
      exact linkworkref03_span.l11 _ t _ (by rw [List.length_map]; omega)
    | succ j ih =>
      intro t u v hj ht hu hv
      obtain ⟨y, hy⟩ : ∃ y, (a :: q)[t]? = some y := ⟨_, List.getElem?_eq_getElem (by omega)⟩
      have hyk : Sym.ht y ≤ 68719476736 := by
        rcases List.mem_cons.1 (List.mem_of_getElem? hy) with e | hm
        · rw [e]; exact ha
        · exact hq y hm
      rw [drop_cons hy, List.foldl_cons, List.foldl_cons]
      refine linkworkref03_span.l10 _ t (mkG u v) (mkR y) _ _ (by rw [List.length_map]; omega) (by rw [List.getElem?_map, hy]; rfl) (QR.Min u y hu hyk) (QR.Max v y hv hyk) (by simp at ht; omega) ?_
      exact ih (t + 1) _ _ (by omega) (by omega) (ht_min _ _ hu hyk) (ht_max _ _ hv hyk)
  have := loop _ 0 a a rfl (by omega) ha ha
  rw [List.drop_zero, List.foldl_cons, List.foldl_cons, minR_self, maxR_self] at this
  exact linkworkref03_span.e0 _ _ _ _ rfl (QR.addZ a ha) (QR.addZ a ha) this
theorem Point (x : Rat) (hx : ht x ≤ 68719476736) : Contract prg 141 [(mkR x).pv] (mkG x x).pv := linkworkref03_Point.e0 _ _ (span x [] (by simp) hx (fun y h => by cases h))
theorem Add (r s : ARange) (h : FitG 34359738367 r) (h' : FitG 34359738367 s) : Contract prg 139 [r.pv, s.pv] (mkG (loG r + loG s) (hiG r + hiG s)).pv := by
  have a1 := ht_loG h (by omega)
  have a2 := ht_hiG h (by omega)
  have a3 := ht_loG h' (by omega)
  have a4 := ht_hiG h' (by omega)
  have b1 := ht_add (loG r) (loG s)
  have b2 := ht_add (hiG r) (hiG s)
  have l1 := loG_le r
  have l2 := loG_le s
  have := span (loG r + loG s) [hiG r + hiG s] (by simp) (by omega) (fun y hy => by rw [List.mem_singleton.1 hy]; omega)
  simp only [List.foldl] at this
  rw [minR_of_le (by grind), maxR_of_le (by grind)] at this
  exact linkworkref03_Add.e0 r s _ _ _ _ _ (given r ⟨by omega, by omega⟩) (given s ⟨by omega, by omega⟩) (QR.Add _ _ (by omega) (by omega)) (QR.Add _ _ (by omega) (by omega)) this
theorem Hull (r s : ARange) (h : FitG 68719476736 r) (h' : FitG 68719476736 s) : Contract prg 98 [r.pv, s.pv] (mkG (minR (loG r) (loG s)) (maxR (hiG r) (hiG s))).pv := by
  have a1 := ht_loG h (by omega)
  have a2 := ht_hiG h (by omega)
  have a3 := ht_loG h' (by omega)
  have a4 := ht_hiG h' (by omega)
  have l1 := loG_le r
  have l2 := loG_le s
  have := span (loG r) [hiG r, loG s, hiG s] (by simp) a1 (fun y hy => by simp at hy; rcases hy with e | e | e <;> rw [e] <;> assumption)
  simp only [List.foldl] at this
  have e1 : minR (minR (minR (loG r) (hiG r)) (loG s)) (hiG s) = minR (loG r) (loG s) := by
    rw [minR_of_le l1]
    exact minR_of_le (Rat.le_trans (minR_le_r _ _) l2)
  have e2 : maxR (maxR (maxR (loG r) (hiG r)) (loG s)) (hiG s) = maxR (hiG r) (hiG s) := by
    rw [maxR_of_le l1]
    have g1 := maxR_ge_l (maxR (hiG r) (loG s)) (hiG s)
    have g2 := maxR_ge_r (maxR (hiG r) (loG s)) (hiG s)
    have g3 := maxR_ge_l (hiG r) (loG s)
    exact Rat.le_antisymm (maxR_le (maxR_le (maxR_ge_l _ _) (Rat.le_trans l2 (maxR_ge_r _ _))) (maxR_ge_r _ _)) (maxR_le (Rat.le_trans g3 g1) g2)
  rw [e1, e2] at this
  exact linkworkref03_Hull.e0 r s _ _ _ (given r h) (given s h') this
theorem Mul (r s : ARange) (h : FitG 34359738368 r) (h' : FitG 34359738368 s) : Contract prg 140 [r.pv, s.pv] (mkG (mulLo (loG r) (hiG r) (loG s) (hiG s)) (mulHi (loG r) (hiG r) (loG s) (hiG s))).pv := by
  have a1 := ht_loG h (by omega)
  have a2 := ht_hiG h (by omega)
  have a3 := ht_loG h' (by omega)
  have a4 := ht_hiG h' (by omega)
  have b1 := ht_mul (loG r) (loG s)
  have b2 := ht_mul (loG r) (hiG s)
  have b3 := ht_mul (hiG r) (loG s)
  have b4 := ht_mul (hiG r) (hiG s)
  have := span (loG r * loG s) [loG r * hiG s, hiG r * loG s, hiG r * hiG s] (by simp) (by omega) (fun y hy => by simp at hy; rcases hy with e | e | e <;> rw [e] <;> omega)
  exact linkworkref03_Mul.e0 r s _ _ _ _ _ _ _ (given r ⟨by omega, by omega⟩) (given s ⟨by omega, by omega⟩) (QR.Mul _ _ (by omega) (by omega)) (QR.Mul _ _ (by omega) (by omega)) (QR.Mul _ _ (by omega) (by omega)) (QR.Mul _ _ (by omega) (by omega)) this
end CJv
end Go.Proofs.YtcgbmnkgmepikaaGreat.Sym
namespace Go.Proofs.YtcgbmnkgmepikaaGreat.Sym
open Go Path CInt
set_option linter.unusedVariables false
def overF : List Rat → Rat → Rat → Rat × Rat
  | [], _, _ => (0, 0)
  | a :: r, c, d => (mulLo (overF r c d).1 (overF r c d).2 c d + a, mulHi (overF r c d).1 (overF r c d).2 c d + a)
theorem overF_le (q : List Rat) (c d : Rat) : (overF q c d).1 ≤ (overF q c d).2 := by
  cases q with
  | nil => exact Rat.le_refl
  | cons a r =>
    have := mulLo_le (overF r c d).1 (overF r c d).2 c d
    show mulLo _ _ _ _ + a ≤ mulHi _ _ _ _ + a
    grind
theorem ht_overF {k m : Nat} : ∀ (q : List Rat) (c d : Rat), Fl k q → ht c ≤ m → ht d ≤ m → ht (overF q c d).1 ≤ q.length * (k + m + 1) + 1 ∧ ht (overF q c d).2 ≤ q.length * (k + m + 1) + 1
  | [], c, d, _, _, _ => by
    have := ht_zero
    exact ⟨Nat.le_trans (Nat.le_of_eq this) (by omega), Nat.le_trans (Nat.le_of_eq this) (by omega)⟩
  | a :: r, c, d, h, hc, hd => by
    obtain ⟨g1, g2⟩ := ht_overF r c d (fun x hx => h x (List.mem_cons_of_mem _ hx)) hc hd
    have ha := h a (List.mem_cons_self ..)
    have m1 := ht_mulLo g1 g2 hc hd
    have m2 := ht_mulHi g1 g2 hc hd
    have s1 := ht_add (mulLo (overF r c d).1 (overF r c d).2 c d) a
    have s2 := ht_add (mulHi (overF r c d).1 (overF r c d).2 c d) a
    rw [List.length_cons, Nat.add_mul]
    constructor
    · show ht (mulLo _ _ _ _ + a) ≤ _
      omega
    · show ht (mulHi _ _ _ _ + a) ≤ _
      omega
theorem zero_mul' (c : Rat) : (0 : Rat) * c = 0 := by grind
theorem overF_one (a c d : Rat) : overF [a] c d = (a, a) := by
  show (mulLo 0 0 c d + a, mulHi 0 0 c d + a) = (a, a)
  unfold mulLo mulHi
  simp only [zero_mul', minR_self, maxR_self]
  rw [Rat.zero_add]
theorem over_fit {k : Nat} {q : List Rat} {c d : Rat} (hl : q.length ≤ 65) (hq : Fl k q) (hc : ht c ≤ k) (hd : ht d ≤ k) (hk : k ≤ 67108864) (t : Nat) : ht (overF (q.drop t) c d).1 ≤ 17179869184 ∧ ht (overF (q.drop t) c d).2 ≤ 17179869184 := by
  obtain ⟨g1, g2⟩ := ht_overF (k := k) (m := k) (q.drop t) c d (fun x hx => hq x (List.mem_of_mem_drop hx)) hc hd
  have e : (q.drop t).length * (k + k + 1) ≤ 65 * (k + k + 1) := Nat.mul_le_mul_right _ (by rw [List.length_drop]; omega)
  omega
theorem getQ {q : List Rat} {n : Nat} {v : Rat} (h : q[n]? = some v) : (q.map mkR)[n]? = some (mkR v) := by rw [List.getElem?_map, h]; rfl
theorem CPo.Over (q : List Rat) (r : ARange) (hc : chk (q.map mkR) = 0) (hq : Fl 67108864 q) (hr : FitG 67108864 r) : Contract prg 84 [polyPV (q.map mkR), r.pv] (.tup [(mkG (overF q (loG r) (hiG r)).1 (overF q (loG r) (hiG r)).2).pv, .nilI]) := by
  have hlm : (q.map mkR).length = q.length := List.length_map ..
  have hl : q.length ≤ 65 := by have := chk_len hc; omega
  have hck := CPo.Check (q.map mkR) (fit_map (fun x hx => Nat.le_trans (hq x hx) (by omega)))
  rw [hc] at hck
  have r1 := ht_loG hr (by omega)
  have r2 := ht_hiG hr (by omega)
  have fr : FitG 34359738368 r := ⟨by omega, by omega⟩
  have loop : ∀ (n : Nat) (s : ARange), n ≤ q.length → (n < q.length → s = mkG (overF (q.drop n) (loG r) (hiG r)).1 (overF (q.drop n) (loG r) (hiG r)).2) → (n = q.length → s = mkG 0 0) → poly_Over.Loop1 (q.map mkR) ((n : Int) - 1) r s (.tup [(mkG (overF q (loG r) (hiG r)).1 (overF q (loG r) (hiG r)).2).pv, .nilI]) := by
    intro n
    induction n with
    | zero =>
      intro s _ h1 h2
      have e : s = mkG (overF q (loG r) (hiG r)).1 (overF q (loG r) (hiG r)).2 := by
        by_cases h0 : q.length = 0
        · rw [h2 h0.symm, List.eq_nil_of_length_eq_zero h0]; rfl
        · have := h1 (by omega); rwa [List.drop_zero] at this
      rw [← e]
      exact poly_Over.l12 _ _ r s (by omega)
    | succ n ih =>
      intro s hn h1 h2
      obtain ⟨v, hv⟩ : ∃ v, q[n]? = some v := ⟨_, List.getElem?_eq_getElem (by omega)⟩
      have hvk := hq v (List.mem_of_getElem? hv)
      have hd := drop_cons hv
      obtain ⟨o1, o2⟩ := over_fit hl hq r1 r2 (by omega) (n + 1)
      by_cases hlast : n + 1 = q.length
      · refine poly_Over.l10 _ _ r s n (mkR v) _ (by omega) (by unfold InI64; omega) (by omega) (by omega) (getQ hv) (CIv.Point v (by omega)) (by unfold InI64; omega) ?_
        have := ih (mkG v v) (by omega) (fun _ => by rw [hd, List.drop_of_length_le (by omega), overF_one]) (by omega)
        rwa [show ((n + 1 : Nat) : Int) - 1 - 1 = (n : Int) - 1 from by omega]
      · have es := h1 (by omega)
        have ho := overF_le (q.drop (n + 1)) (loG r) (hiG r)
        have m := CIv.Mul s r (by rw [es]; exact fit_mkG (by omega) (by omega)) fr
        have ht1 := ht_mulLo o1 o2 r1 r2
        have ht2 := ht_mulHi o1 o2 r1 r2
        rw [es, loG_mk ho, hiG_mk ho] at m
        have hm := mulLo_le (overF (q.drop (n + 1)) (loG r) (hiG r)).1 (overF (q.drop (n + 1)) (loG r) (hiG r)).2 (loG r) (hiG r)
        have a := CIv.Add (mkG (mulLo (overF (q.drop (n + 1)) (loG r) (hiG r)).1 (overF (q.drop (n + 1)) (loG r) (hiG r)).2 (loG r) (hiG r)) (mulHi (overF (q.drop (n + 1)) (loG r) (hiG r)).1 (overF (q.drop (n + 1)) (loG r) (hiG r)).2 (loG r) (hiG r))) (mkG v v) (fit_mkG (by omega) (by omega)) (fit_mkG (by omega) (by omega))
        rw [loG_mk hm, hiG_mk hm, loG_mk Rat.le_refl, hiG_mk Rat.le_refl] at a
        rw [← es] at m
        refine poly_Over.l11 _ _ r s _ n (mkR v) _ _ (by omega) (by unfold InI64; omega) (by omega) m (by omega) (getQ hv) (CIv.Point v (by omega)) a (by unfold InI64; omega) ?_
        have := ih _ (by omega) (fun _ => by rw [hd]) (by omega)
        rwa [show ((n + 1 : Nat) : Int) - 1 - 1 = (n : Int) - 1 from by omega]
  have := loop q.length (mkG 0 0) (Nat.le_refl _) (by omega) (fun _ => rfl)
  refine poly_Over.e0 _ r hck (by unfold InI64; omega) ?_
  rw [hlm]; exact this
theorem CRe.Over (q : List Rat) (r : ARange) (hc : chk (q.map mkR) = 0) (hq : Fl 67108864 q) (hr : FitG 67108864 r) : Contract prg 96 [polyPV (q.map mkR), r.pv] (.tup [(mkG (overF q (loG r) (hiG r)).1 (overF q (loG r) (hiG r)).2).pv, vI 0]) := by
  have hlm : (q.map mkR).length = q.length := List.length_map ..
  have hl : q.length ≤ 65 := by have := chk_len hc; omega
  have hck := CRe.Check (q.map mkR) (fit_map (fun x hx => Nat.le_trans (hq x hx) (by omega)))
  rw [hc] at hck
  have r1 := ht_loG hr (by omega)
  have r2 := ht_hiG hr (by omega)
  have fr : FitG 34359738368 r := ⟨by omega, by omega⟩
  have loop : ∀ (n : Nat) (s : ARange), n ≤ q.length → s = mkG (overF (q.drop n) (loG r) (hiG r)).1 (overF (q.drop n) (loG r) (hiG r)).2 → linkworkref05_Over.Loop1 (q.map mkR) ((n : Int) - 1) r s (.tup [(mkG (overF q (loG r) (hiG r)).1 (overF q (loG r) (hiG r)).2).pv, vI 0]) := by
    intro n
    induction n with
    | zero =>
      intro s _ h1
      rw [List.drop_zero] at h1
      rw [← h1]
      exact linkworkref05_Over.l11 _ _ r s (by omega)
    | succ n ih =>
      intro s hn es
      obtain ⟨v, hv⟩ : ∃ v, q[n]? = some v := ⟨_, List.getElem?_eq_getElem (by omega)⟩
      have hvk := hq v (List.mem_of_getElem? hv)
      have hd := drop_cons hv
      obtain ⟨o1, o2⟩ := over_fit hl hq r1 r2 (by omega) (n + 1)
      have ho := overF_le (q.drop (n + 1)) (loG r) (hiG r)
      have m := CJv.Mul s r (by rw [es]; exact fit_mkG (by omega) (by omega)) fr
      have ht1 := ht_mulLo o1 o2 r1 r2
      have ht2 := ht_mulHi o1 o2 r1 r2
      rw [es, loG_mk ho, hiG_mk ho] at m
      have hm := mulLo_le (overF (q.drop (n + 1)) (loG r) (hiG r)).1 (overF (q.drop (n + 1)) (loG r) (hiG r)).2 (loG r) (hiG r)
      have a := CJv.Add (mkG (mulLo (overF (q.drop (n + 1)) (loG r) (hiG r)).1 (overF (q.drop (n + 1)) (loG r) (hiG r)).2 (loG r) (hiG r)) (mulHi (overF (q.drop (n + 1)) (loG r) (hiG r)).1 (overF (q.drop (n + 1)) (loG r) (hiG r)).2 (loG r) (hiG r))) (mkG v v) (fit_mkG (by omega) (by omega)) (fit_mkG (by omega) (by omega))
      rw [loG_mk hm, hiG_mk hm, loG_mk Rat.le_refl, hiG_mk Rat.le_refl] at a
      rw [← es] at m
      refine linkworkref05_Over.l10 _ _ r s _ n (mkR v) _ _ (by omega) m (by omega) (getQ hv) (CJv.Point v (by omega)) a (by unfold InI64; omega) ?_
      have := ih _ (by omega) (by rw [hd])
      rwa [show ((n + 1 : Nat) : Int) - 1 - 1 = (n : Int) - 1 from by omega]
  have := loop q.length (mkG 0 0) (Nat.le_refl _) (by rw [List.drop_of_length_le (Nat.le_refl _)]; rfl)
  refine linkworkref05_Over.e1 _ r 0 hck rfl (by unfold InI64; omega) ?_
  rw [hlm]; exact this
end Go.Proofs.YtcgbmnkgmepikaaGreat.Sym
namespace Go.Proofs.YtcgbmnkgmepikaaGreat.Sym
open Go Path CInt
set_option linter.unusedVariables false
def brkW (l : ALaw) (i : Nat) : Rat := match l.breaks[i]? with
  | some b => b.val
  | none => 0
def pcW (l : ALaw) (i : Nat) : List Rat := match l.pieces[i]? with
  | some p => vals p
  | none => []
def lenW (l : ALaw) (i : Nat) : Rat := endW l i - brkW l i
theorem brkW_of {l : ALaw} {i : Nat} {b : ARat} (h : l.breaks[i]? = some b) : brkW l i = b.val := by unfold brkW; rw [h]
theorem pcW_of {l : ALaw} {i : Nat} {p : List ARat} (h : l.pieces[i]? = some p) : pcW l i = vals p := by unfold pcW; rw [h]
theorem ht_endW {l : ALaw} {k : Nat} (hf : FitW k l) (hk : 1 ≤ k) (i : Nat) : ht (endW l i) ≤ k := by
  unfold endW
  cases h : l.breaks[i + 1]? with
  | some v => have hv := hf.1 v (List.mem_of_getElem? h); exact ht_fit hv.1 hv.2 hk
  | none => exact Nat.le_trans (show ht ((1 : Int) : Rat) ≤ 1 from by decide) hk
theorem ht_brkW {l : ALaw} {k : Nat} (hf : FitW k l) (hk : 1 ≤ k) (i : Nat) : ht (brkW l i) ≤ k := by
  unfold brkW
  cases h : l.breaks[i]? with
  | some v => have hv := hf.1 v (List.mem_of_getElem? h); exact ht_fit hv.1 hv.2 hk
  | none => exact Nat.le_trans (Nat.le_of_eq ht_zero) hk
theorem ht_lenW {l : ALaw} {k : Nat} (hf : FitW k l) (hk : 1 ≤ k) (i : Nat) : ht (lenW l i) ≤ 2 * k + 1 := by
  have h1 := ht_endW hf hk i
  have h2 := ht_brkW hf hk i
  have h3 := ht_sub (endW l i) (brkW l i)
  unfold lenW; omega
theorem fl_pcW {l : ALaw} {k : Nat} (hf : FitW k l) (hk : 1 ≤ k) (i : Nat) : Fl k (pcW l i) := by
  unfold pcW
  cases h : l.pieces[i]? with
  | some p => exact fl_vals (hf.2 p (List.mem_of_getElem? h)) hk
  | none => exact fun x hx => by cases hx
theorem Good.at {l : ALaw} (g : Good l) {t : Nat} (h : t < l.pieces.length) : ∃ b p, l.breaks[t]? = some b ∧ l.pieces[t]? = some p ∧ b = mkR (brkW l t) ∧ p = (pcW l t).map mkR ∧ chk p = 0 ∧ p.length ≤ 9 := by
  have hlen := g.len
  obtain ⟨b, hb⟩ : ∃ b, l.breaks[t]? = some b := ⟨_, List.getElem?_eq_getElem (by omega)⟩
  obtain ⟨p, hp⟩ : ∃ p, l.pieces[t]? = some p := ⟨_, List.getElem?_eq_getElem h⟩
  obtain ⟨h1, h2⟩ := g.ps p (List.mem_of_getElem? hp)
  refine ⟨b, p, hb, hp, ?_, ?_, h1, h2⟩
  · rw [brkW_of hb, mkR_of (List.all_eq_true.1 g.valid b (List.mem_of_getElem? hb))]
  · rw [pcW_of hp, vals_of (chk_valid h1)]
theorem pcW_len {l : ALaw} (g : Good l) (t : Nat) : (pcW l t).length ≤ 9 := by
  unfold pcW
  cases h : l.pieces[t]? with
  | some p => have := (g.ps p (List.mem_of_getElem? h)).2; unfold vals; rw [List.length_map]; exact this
  | none => simp
def joinB (l : ALaw) (t : Nat) : Bool := decide (evalL (pcW l t) (lenW l t) = evalL (pcW l ((t + 1) % l.pieces.length)) 0)
def joinsF (l : ALaw) : Nat → Nat → Bool
  | 0, _ => true
  | j + 1, t => bif joinB l t then joinsF l j (t + 1) else false
def joinsW (l : ALaw) : Bool := joinsF l l.pieces.length 0
def smoothF : Nat → ALaw → Bool
  | 0, _ => true
  | j + 1, l => bif joinsW l then smoothF j (deriveW l) else false
def overW (l : ALaw) (t : Nat) : Rat × Rat := overF (pcW l t) 0 (lenW l t)
def boundsF (l : ALaw) : Nat → Nat → Rat × Rat → Rat × Rat
  | 0, _, a => a
  | j + 1, t, a => boundsF l j (t + 1) (bif Nat.beq t 0 then overW l t else (minR a.1 (overW l t).1, maxR a.2 (overW l t).2))
def boundsW (l : ALaw) : Rat × Rat := boundsF l l.pieces.length 0 (0, 0)
theorem ht_evalW {l : ALaw} (g : Good l) (hf : FitW 1048576 l) (i : Nat) {x : Rat} (hx : ht x ≤ 2097153) : ht (evalL (pcW l i) x) ≤ 68719476736 := by
  have h1 := ht_eval (pcW l i) x 2097153 (fun y hy => Nat.le_trans (fl_pcW hf (by omega) i y hy) (by omega)) hx
  have h2 : (pcW l i).length * (2 * 2097153 + 1) ≤ 9 * (2 * 2097153 + 1) := Nat.mul_le_mul_right _ (pcW_len g i)
  omega
theorem asc_get {q : List Rat} (h : q.Pairwise (· < ·)) {i j : Nat} {x y : Rat} (hi : q[i]? = some x) (hj : q[j]? = some y) (hij : i < j) : x < y := by
  obtain ⟨a1, a2⟩ := List.getElem?_eq_some_iff.1 hi
  obtain ⟨b1, b2⟩ := List.getElem?_eq_some_iff.1 hj
  have := List.pairwise_iff_getElem.1 h i j a1 b1 hij
  rwa [a2, b2] at this
theorem endW_gt {l : ALaw} (g : Good l) {t : Nat} (h : t < l.breaks.length) : brkW l t < endW l t := by
  obtain ⟨b, hb⟩ : ∃ b, l.breaks[t]? = some b := ⟨_, List.getElem?_eq_getElem h⟩
  rw [brkW_of hb]
  unfold endW
  cases h2 : l.breaks[t + 1]? with
  | none => have := (g.unit b (List.mem_of_getElem? hb)).2; show b.val < ((1 : Int) : Rat); exact this
  | some c =>
    have hv1 : (vals l.breaks)[t]? = some b.val := by unfold vals; rw [List.getElem?_map, hb]; rfl
    have hv2 : (vals l.breaks)[t + 1]? = some c.val := by unfold vals; rw [List.getElem?_map, h2]; rfl
    exact asc_get g.asc hv1 hv2 (Nat.lt_succ_self t)
theorem lenW_pos {l : ALaw} (g : Good l) {t : Nat} (h : t < l.breaks.length) : 0 < lenW l t := by
  have := endW_gt g h
  unfold lenW; grind
theorem overW_le (l : ALaw) (t : Nat) : (overW l t).1 ≤ (overW l t).2 := overF_le _ _ _
theorem ht_overW {l : ALaw} (g : Good l) (hf : FitW 1048576 l) (t : Nat) : ht (overW l t).1 ≤ 17179869184 ∧ ht (overW l t).2 ≤ 17179869184 := by
  have h := over_fit (k := 67108864) (q := pcW l t) (c := 0) (d := lenW l t) (Nat.le_trans (pcW_len g t) (by omega)) (fun y hy => Nat.le_trans (fl_pcW hf (by omega) t y hy) (by omega)) (by decide) (Nat.le_trans (ht_lenW hf (by omega) t) (by omega)) (by omega) 0
  rwa [List.drop_zero] at h
theorem fitG_len {l : ALaw} (hf : FitW 1048576 l) (t : Nat) : FitG 67108864 (mkG 0 (lenW l t)) := fit_mkG (by decide) (Nat.le_trans (ht_lenW hf (by omega) t) (by omega))
namespace CLw
theorem length (l : ALaw) (g : Good l) (hf : FitW 1048576 l) {t : Nat} (h : t < l.pieces.length) : Contract prg 85 [l.pv, vI (t : Int)] (mkR (lenW l t)).pv := by
  obtain ⟨b, p, hb, hp, eb, ep, hc, h9⟩ := g.at h
  have hlen := g.len
  have hle := g.le
  have h1 := ht_endW hf (by omega) t
  have h2 := ht_brkW hf (by omega) t
  rw [eb] at hb
  exact law_length.e0 l t _ t _ _ (end' l t (by omega) (by omega) g.valid) rfl hb (QF.Sub _ _ (by omega) (by omega))
theorem evalQ {l : ALaw} (g : Good l) (hf : FitW 1048576 l) {t : Nat} (h : t < l.pieces.length) (x : Rat) (hx : ht x ≤ 2097153) : Contract prg 16 [polyPV ((pcW l t).map mkR), (mkR x).pv] (.tup [(mkR (evalL (pcW l t) x)).pv, .nilI]) := by
  obtain ⟨b, p, hb, hp, eb, ep, hc, h9⟩ := g.at h
  have hpf := hf.2 p (List.mem_of_getElem? hp)
  have := CPo.Eval p (mkR x) hc (fun a ha => ⟨by have := (hpf a ha).1; omega, by have := (hpf a ha).2; omega⟩) (by have h1 := fit_mkRk hx; exact ⟨by omega, by omega⟩)
  rwa [mkR_val, ep, vals_mkR] at this
theorem joins (l : ALaw) (g : Good l) (hf : FitW 1048576 l) : Contract prg 95 [l.pv] (.tup [vB (joinsW l), .nilI]) := by
  have hlen := g.len
  have hle := g.le
  have hn0 := g.n0
  have loop : ∀ (j t : Nat), l.pieces.length - t = j → law_joins.Loop1 l t (.tup [vB (joinsF l j t), .nilI]) := by
    intro j
    induction j with
    | zero => intro t hj; exact law_joins.l14 l t (by omega)
    | succ j ih =>
      intro t hj
      have ht : t < l.pieces.length := by omega
      have hm : (t + 1) % l.pieces.length < l.pieces.length := Nat.mod_lt _ (by omega)
      obtain ⟨b, p, hb, hp, eb, ep, hc, h9⟩ := g.at ht
      obtain ⟨b', p', hb', hp', eb', ep', hc', h9'⟩ := g.at hm
      have e1 := evalQ g hf ht (lenW l t) (Nat.le_trans (ht_lenW hf (by omega) t) (by omega))
      have e2 := evalQ g hf hm 0 (by decide)
      have c := QF.Cmp _ _ (ht_evalW g hf t (Nat.le_trans (ht_lenW hf (by omega) t) (by omega))) (ht_evalW g hf ((t + 1) % l.pieces.length) (x := 0) (by decide))
      rw [ep] at hp
      rw [ep'] at hp'
      rw [joinsF]
      by_cases h : evalL (pcW l t) (lenW l t) = evalL (pcW l ((t + 1) % l.pieces.length)) 0
      · rw [show joinB l t = true from decide_eq_true h, cond_true]
        exact law_joins.l11 l t _ _ _ _ _ _ ht hp (length l g hf ht) e1 (by omega) (by omega) hp' e2 c (cmpR_eq.2 h) (ih (t + 1) (by omega))
      · rw [show joinB l t = false from decide_eq_false h, cond_false]
        exact law_joins.l10 l t _ _ _ _ _ _ ht hp (length l g hf ht) e1 (by omega) (by omega) hp' e2 c (fun e => h (cmpR_eq.1 e))
  exact law_joins.e0 l (loop _ 0 rfl)
theorem Smooth (l : ALaw) (k : Nat) (hc : chkLaw l = 0) (hf : FitW 1000000 l) (hk : k ≤ 8) : Contract prg 40 [l.pv, vI (k : Int)] (.tup [vB (smoothF (k + 1) l), .nilI]) := by
  have hck := Check l ⟨fun a ha => ⟨by have := (hf.1 a ha).1; omega, by have := (hf.1 a ha).2; omega⟩, fun p hp a ha => ⟨by have := (hf.2 p hp a ha).1; omega, by have := (hf.2 p hp a ha).2; omega⟩⟩
  rw [hc] at hck
  have loop : ∀ (j t : Nat) (s : ALaw), k + 1 - t = j → t ≤ k + 1 → chkLaw s = 0 → FitW (1000000 + 2 * t) s → law_Smooth.Loop1 k t s (.tup [vB (smoothF j s), .nilI]) := by
    intro j
    induction j with
    | zero => intro t s hj _ _ _; exact law_Smooth.l14 k t s (by omega)
    | succ j ih =>
      intro t s hj ht hs hfs
      have g := good_of hs
      have hf1 : FitW 1048576 s := ⟨fun a ha => ⟨by have := (hfs.1 a ha).1; omega, by have := (hfs.1 a ha).2; omega⟩, fun p hp a ha => ⟨by have := (hfs.2 p hp a ha).1; omega, by have := (hfs.2 p hp a ha).2; omega⟩⟩
      have hj' := joins s g hf1
      rw [smoothF]
      cases hb : joinsW s with
      | false => exact law_Smooth.l10 k t s _ (by omega) hj' hb
      | true =>
        have hd := Derive s hs ⟨fun a ha => ⟨by have := (hfs.1 a ha).1; omega, by have := (hfs.1 a ha).2; omega⟩, fun p hp a ha => ⟨by have := (hfs.2 p hp a ha).1; omega, by have := (hfs.2 p hp a ha).2; omega⟩⟩
        exact law_Smooth.l11 k t s _ _ (by omega) hj' hb hd (by omega) (ih (t + 1) _ (by omega) (by omega) (chk_derive hs) (by have := fitW_derive g (by omega) hfs; rwa [show 1000000 + 2 * t + 2 = 1000000 + 2 * (t + 1) from by omega] at this))
  exact law_Smooth.e2 l k hck (by omega) (by omega) (by unfold InI64; omega) (loop _ 0 l rfl (by omega) hc hf)
theorem Bounds (l : ALaw) (hc : chkLaw l = 0) (hf : FitW 1048576 l) : Contract prg 34 [l.pv] (.tup [(mkG (boundsW l).1 (boundsW l).2).pv, .nilI]) := by
  have g := good_of hc
  have hck := Check l ⟨fun a ha => ⟨by have := (hf.1 a ha).1; omega, by have := (hf.1 a ha).2; omega⟩, fun p hp a ha => ⟨by have := (hf.2 p hp a ha).1; omega, by have := (hf.2 p hp a ha).2; omega⟩⟩
  rw [hc] at hck
  have hlen := g.len
  have hle := g.le
  have loop : ∀ (j t : Nat) (u : Rat × Rat), l.pieces.length - t = j → (t ≠ 0 → u.1 ≤ u.2 ∧ ht u.1 ≤ 17179869184 ∧ ht u.2 ≤ 17179869184) → law_Bounds.Loop1 l t (mkG u.1 u.2) (.tup [(mkG (boundsF l j t u).1 (boundsF l j t u).2).pv, .nilI]) := by
    intro j
    induction j with
    | zero => intro t u hj _; exact law_Bounds.l13 l t _ (by omega)
    | succ j ih =>
      intro t u hj hu
      have ht : t < l.pieces.length := by omega
      obtain ⟨b, p, hb, hp, eb, ep, hcp, h9⟩ := g.at ht
      rw [ep] at hp hcp
      have hl := lenW_pos g (t := t) (by omega)
      have ov := CPo.Over (pcW l t) (mkG 0 (lenW l t)) hcp (fun y hy => Nat.le_trans (fl_pcW hf (by omega) t y hy) (by omega)) (fitG_len hf t)
      rw [loG_mk (Rat.le_of_lt hl), hiG_mk (Rat.le_of_lt hl)] at ov
      obtain ⟨o1, o2⟩ := ht_overW g hf t
      have ol := overW_le l t
      by_cases h0 : t = 0
      · subst h0
        have hh := CIv.Hull (mkG (overW l 0).1 (overW l 0).2) (mkG (overW l 0).1 (overW l 0).2) (fit_mkG (by omega) (by omega)) (fit_mkG (by omega) (by omega))
        rw [loG_mk ol, hiG_mk ol, minR_self, maxR_self] at hh
        exact law_Bounds.l10 l 0 _ _ _ _ _ ht hp (length l g hf ht) ov rfl hh (by omega) (ih 1 (overW l 0) (by omega) (fun _ => ⟨ol, o1, o2⟩))
      · obtain ⟨u1, u2, u3⟩ := hu h0
        have hh := CIv.Hull (mkG u.1 u.2) (mkG (overW l t).1 (overW l t).2) (fit_mkG (by omega) (by omega)) (fit_mkG (by omega) (by omega))
        rw [loG_mk ol, hiG_mk ol, loG_mk u1, hiG_mk u1] at hh
        rw [boundsF, beq_fal.2 h0, cond_false]
        refine law_Bounds.l11 l t _ _ _ _ _ ht hp (length l g hf ht) ov h0 hh (by omega) (ih (t + 1) (minR u.1 (overW l t).1, maxR u.2 (overW l t).2) (by omega) (fun _ => ⟨?_, ht_min _ _ u2 o1, ht_max _ _ u3 o2⟩))
        exact Rat.le_trans (minR_le_l _ _) (Rat.le_trans u1 (maxR_ge_l _ _))
  exact law_Bounds.e0 l hck (loop _ 0 (0, 0) rfl (fun h => absurd rfl h))
end CLw
namespace CRl
theorem lengthR (l : ALaw) (g : Good l) (hf : FitW 1048576 l) {t : Nat} (h : t < l.pieces.length) : Contract prg 56 [(mkR (endW l t)).pv, (mkR (brkW l t)).pv] (mkR (lenW l t)).pv := by
  have h1 := ht_endW hf (by omega) t
  have h2 := ht_brkW hf (by omega) t
  exact QR.Sub _ _ (by omega) (by omega)
theorem atQ {l : ALaw} (g : Good l) (hf : FitW 1048576 l) {t : Nat} (h : t < l.pieces.length) (x : Rat) (hx : ht x ≤ 2097153) : Contract prg 77 [polyPV ((pcW l t).map mkR), (mkR x).pv] (mkR (evalL (pcW l t) x)).pv := by
  obtain ⟨b, p, hb, hp, eb, ep, hc, h9⟩ := g.at h
  have hpf := hf.2 p (List.mem_of_getElem? hp)
  have := CRe.At p (mkR x) (by omega) (fun a ha => ⟨by have := (hpf a ha).1; omega, by have := (hpf a ha).2; omega⟩) (by have h1 := fit_mkRk hx; exact ⟨by omega, by omega⟩)
  rwa [mkR_val, ep, vals_mkR] at this
theorem Smooth (l : ALaw) (k : Nat) (hc : chkLaw l = 0) (hf : FitW 1000000 l) (hk : k ≤ 8) : Contract prg 44 [l.pv, vI (k : Int)] (vB (smoothF (k + 1) l)) := by
  have loop : ∀ (j : Nat) (s : ALaw), j ≤ k + 1 → chkLaw s = 0 → FitW (1000000 + 2 * (k + 1 - j)) s → linkworkref52_Smooth.Loop1 ((j : Int) - 1) s (vB (smoothF j s)) := by
    intro j
    induction j with
    | zero => intro s hj _ _; exact linkworkref52_Smooth.l11 _ s (by omega)
    | succ j ih =>
      intro s ht hs hfs
      have g := good_of hs
      have hf1 : FitW 1048576 s := ⟨fun a ha => ⟨by have := (hfs.1 a ha).1; omega, by have := (hfs.1 a ha).2; omega⟩, fun p hp a ha => ⟨by have := (hfs.2 p hp a ha).1; omega, by have := (hfs.2 p hp a ha).2; omega⟩⟩
      have hlen := g.len
      have hle := g.le
      have hn0 := g.n0
      have hd := Derive s g ⟨fun a ha => ⟨by have := (hf1.1 a ha).1; omega, by have := (hf1.1 a ha).2; omega⟩, fun p hp a ha => ⟨by have := (hf1.2 p hp a ha).1; omega, by have := (hf1.2 p hp a ha).2; omega⟩⟩
      have hfd : FitW (1000000 + 2 * (k + 1 - j)) (deriveW s) := by
        have := fitW_derive g (by omega) hfs
        rwa [show 1000000 + 2 * (k + 1 - (j + 1)) + 2 = 1000000 + 2 * (k + 1 - j) from by omega] at this
      have nxt := ih (deriveW s) (by omega) (chk_derive hs) hfd
      have inner : ∀ (i t : Nat), s.pieces.length - t = i → linkworkref52_Smooth.Loop2 (((j + 1 : Nat) : Int) - 1) t s (vB (bif joinsF s i t then smoothF j (deriveW s) else false)) := by
        intro i
        induction i with
        | zero =>
          intro t hi
          refine linkworkref52_Smooth.l22 _ t s _ (by omega) hd (by unfold InI64; omega) ?_
          rwa [show ((j + 1 : Nat) : Int) - 1 - 1 = (j : Int) - 1 from by omega]
        | succ i ih2 =>
          intro t hi
          have ht : t < s.pieces.length := by omega
          have hm : (t + 1) % s.pieces.length < s.pieces.length := Nat.mod_lt _ (by omega)
          obtain ⟨b, p, hb, hp, eb, ep, hc, h9⟩ := g.at ht
          obtain ⟨b', p', hb', hp', eb', ep', hc', h9'⟩ := g.at hm
          have e1 := atQ g hf1 ht (lenW s t) (Nat.le_trans (ht_lenW hf1 (by omega) t) (by omega))
          have e2 := atQ g hf1 hm 0 (by decide)
          have c := QR.Cmp _ _ (ht_evalW g hf1 t (Nat.le_trans (ht_lenW hf1 (by omega) t) (by omega))) (ht_evalW g hf1 ((t + 1) % s.pieces.length) (x := 0) (by decide))
          rw [ep] at hp
          rw [ep'] at hp'
          rw [eb] at hb
          have he := End s t (by omega) (by omega) g.valid
          rw [joinsF]
          by_cases h : evalL (pcW s t) (lenW s t) = evalL (pcW s ((t + 1) % s.pieces.length)) 0
          · rw [show joinB s t = true from decide_eq_true h, cond_true]
            exact linkworkref52_Smooth.l21 _ t s _ _ _ _ _ _ _ _ (by omega) (by omega) (by omega) hp' hp he hb (lengthR s g hf1 ht) e1 e2 c (cmpR_eq.2 h) (ih2 (t + 1) (by omega))
          · rw [show joinB s t = false from decide_eq_false h, cond_false]
            exact linkworkref52_Smooth.l20 _ t s _ _ _ _ _ _ _ _ (by omega) (by omega) (by omega) hp' hp he hb (lengthR s g hf1 ht) e1 e2 c (fun e => h (cmpR_eq.1 e))
      exact linkworkref52_Smooth.l10 _ s (by omega) (inner _ 0 rfl)
  have := loop (k + 1) l (by omega) hc (by rwa [show 1000000 + 2 * (k + 1 - (k + 1)) = 1000000 from by omega])
  rw [show ((k + 1 : Nat) : Int) - 1 = (k : Int) from by omega] at this
  exact linkworkref52_Smooth.e0 l k this
theorem Bounds (l : ALaw) (g : Good l) (hf : FitW 1048576 l) : Contract prg 41 [l.pv] (mkG (boundsW l).1 (boundsW l).2).pv := by
  have hlen := g.len
  have hle := g.le
  have loop : ∀ (j t : Nat) (u : Rat × Rat), l.pieces.length - t = j → (t ≠ 0 → u.1 ≤ u.2 ∧ ht u.1 ≤ 17179869184 ∧ ht u.2 ≤ 17179869184) → linkworkref52_Bounds.Loop1 t l (mkG u.1 u.2) (mkG (boundsF l j t u).1 (boundsF l j t u).2).pv := by
    intro j
    induction j with
    | zero => intro t u hj _; exact linkworkref52_Bounds.l12 t l _ (by omega)
    | succ j ih =>
      intro t u hj hu
      have ht : t < l.pieces.length := by omega
      obtain ⟨b, p, hb, hp, eb, ep, hcp, h9⟩ := g.at ht
      rw [ep] at hp hcp
      rw [eb] at hb
      have hl := lenW_pos g (t := t) (by omega)
      have ov := CRe.Over (pcW l t) (mkG 0 (lenW l t)) hcp (fun y hy => Nat.le_trans (fl_pcW hf (by omega) t y hy) (by omega)) (fitG_len hf t)
      rw [loG_mk (Rat.le_of_lt hl), hiG_mk (Rat.le_of_lt hl)] at ov
      obtain ⟨o1, o2⟩ := ht_overW g hf t
      have ol := overW_le l t
      have he := End l t (by omega) (by omega) g.valid
      by_cases h0 : t = 0
      · subst h0
        have hh := CJv.Hull (mkG (overW l 0).1 (overW l 0).2) (mkG (overW l 0).1 (overW l 0).2) (fit_mkG (by omega) (by omega)) (fit_mkG (by omega) (by omega))
        rw [loG_mk ol, hiG_mk ol, minR_self, maxR_self] at hh
        exact linkworkref52_Bounds.l10 0 l _ _ _ _ _ _ _ _ ht hp he hb (lengthR l g hf ht) ov rfl hh (by omega) (ih 1 (overW l 0) (by omega) (fun _ => ⟨ol, o1, o2⟩))
      · obtain ⟨u1, u2, u3⟩ := hu h0
        have hh := CJv.Hull (mkG u.1 u.2) (mkG (overW l t).1 (overW l t).2) (fit_mkG (by omega) (by omega)) (fit_mkG (by omega) (by omega))
        rw [loG_mk ol, hiG_mk ol, loG_mk u1, hiG_mk u1] at hh
        rw [boundsF, beq_fal.2 h0, cond_false]
        refine linkworkref52_Bounds.l11 t l _ _ _ _ _ _ _ _ ht hp he hb (lengthR l g hf ht) ov h0 hh (by omega) (ih (t + 1) (minR u.1 (overW l t).1, maxR u.2 (overW l t).2) (by omega) (fun _ => ⟨?_, ht_min _ _ u2 o1, ht_max _ _ u3 o2⟩))
        exact Rat.le_trans (minR_le_l _ _) (Rat.le_trans u1 (maxR_ge_l _ _))
  exact linkworkref52_Bounds.e0 l (loop _ 0 (0, 0) rfl (fun h => absurd rfl h))
end CRl
end Go.Proofs.YtcgbmnkgmepikaaGreat.Sym
namespace Go.Proofs.YtcgbmnkgmepikaaGreat.Sym
open Go Path CInt
set_option linter.unusedVariables false
def constB (l : ALaw) (t : Nat) : Bool := Nat.ble (pcW l t).length 1
def valW (l : ALaw) (t : Nat) : Rat := evalL (pcW l t) 0
def openB (l : ALaw) (t : Nat) : Bool := bif Nat.beq t 0 then false else constB l (t - 1)
def contB (l : ALaw) (t : Nat) : Bool := openB l t && decide (valW l (t - 1) = valW l t)
def lastTo (acc : List (Rat × Rat)) (e : Rat) : List (Rat × Rat) := match acc[acc.length - 1]? with
  | some v => acc.set (acc.length - 1) (v.1, e)
  | none => acc
def dwellsF (l : ALaw) : Nat → Nat → List (Rat × Rat) → List (Rat × Rat)
  | 0, _, acc => acc
  | j + 1, t, acc => bif constB l t then (bif contB l t then dwellsF l j (t + 1) (lastTo acc (endW l t)) else dwellsF l j (t + 1) (acc ++ [(brkW l t, endW l t)])) else dwellsF l j (t + 1) acc
def dwellsW (l : ALaw) : List (Rat × Rat) := dwellsF l l.pieces.length 0 []
def arcR (p : Rat × Rat) : AArc := ⟨mkR p.1, mkR p.2⟩
theorem lastTo_len (acc : List (Rat × Rat)) (e : Rat) : (lastTo acc e).length = acc.length := by
  unfold lastTo; split <;> simp
theorem ble_iff {a b : Nat} : Nat.ble a b = true ↔ a ≤ b := ⟨Nat.le_of_ble_eq_true, Nat.ble_eq_true_of_le⟩
theorem ble_fal {a b : Nat} : Nat.ble a b = false ↔ b < a := by
  constructor
  · intro h; exact Nat.not_le.1 fun e => by rw [ble_iff.2 e] at h; cases h
  · intro h
    cases hb : Nat.ble a b with
    | true => have := ble_iff.1 hb; omega
    | false => rfl
theorem openB_succ (l : ALaw) (t : Nat) : openB l (t + 1) = constB l t := rfl
theorem openB_zero (l : ALaw) : openB l 0 = false := rfl
theorem const_cases {q : List Rat} (h : q.length ≤ 1) (hz : lastZ q = false) : q = [] ∨ ∃ a, q = [a] ∧ a ≠ 0 := by
  match q with
  | [] => exact Or.inl rfl
  | [a] => exact Or.inr ⟨a, rfl, of_decide_eq_false hz⟩
  | a :: b :: r => simp at h
theorem eval_one (a : Rat) : evalL [a] 0 = a := by show 0 * 0 + a = a; grind
theorem chkQ_last {q : List Rat} (h : chk (q.map mkR) = 0) : lastZ q = false := by have := chk_last h; rwa [vals_mkR] at this
namespace CLw
theorem same {p q : List Rat} (hp : p.length ≤ 1) (hq : q.length ≤ 1) (zp : lastZ p = false) (zq : lastZ q = false) (fp : Fl 68719476736 p) (fq : Fl 68719476736 q) : Contract prg 87 [polyPV (p.map mkR), polyPV (q.map mkR)] (vB (decide (evalL p 0 = evalL q 0))) := by
  rcases const_cases hp zp with rfl | ⟨a, rfl, ha⟩
  · rcases const_cases hq zq with rfl | ⟨b, rfl, hb⟩
    · exact law_same.e0 _ _ rfl rfl
    · rw [decide_eq_false (by rw [eval_one]; intro e; exact hb e.symm)]
      exact law_same.e2 _ _ (by simp)
  · rcases const_cases hq zq with rfl | ⟨b, rfl, hb⟩
    · rw [decide_eq_false (by rw [eval_one]; exact ha)]
      exact law_same.e2 _ _ (by simp)
    · have c := QF.Cmp a b (fp a (by simp)) (fq b (by simp))
      have := law_same.e1 ([a].map mkR) ([b].map mkR) _ _ _ rfl (by simp) rfl rfl c
      rw [eval_one, eval_one]
      rwa [show ((cmpR a b) == 0) = decide (a = b) from by
        rw [show ((cmpR a b) == 0) = decide (cmpR a b = 0) from rfl]
        exact decide_eq_decide.2 cmpR_eq] at this
theorem Dwells (l : ALaw) (hc : chkLaw l = 0) (hf : FitW 1048576 l) : Contract prg 35 [l.pv] (.tup [lpv AArc.cells ((dwellsW l).map arcR), .nilI]) := by
  have g := good_of hc
  have hck := Check l ⟨fun a ha => ⟨by have := (hf.1 a ha).1; omega, by have := (hf.1 a ha).2; omega⟩, fun p hp a ha => ⟨by have := (hf.2 p hp a ha).1; omega, by have := (hf.2 p hp a ha).2; omega⟩⟩
  rw [hc] at hck
  have hlen := g.len
  have hle := g.le
  have loop : ∀ (j t : Nat) (acc : List (Rat × Rat)), l.pieces.length - t = j → acc.length ≤ t → (openB l t = true → acc ≠ []) → t ≤ l.pieces.length → law_Dwells.Loop1 acc.length (openB l t) l t (acc.map arcR) (.tup [lpv AArc.cells ((dwellsF l j t acc).map arcR), .nilI]) := by
    intro j
    induction j with
    | zero => intro t acc hj _ _ _; exact law_Dwells.l14 _ _ l t _ (by omega) (by simp)
    | succ j ih =>
      intro t acc hj hal hao htl
      have ht : t < l.pieces.length := by omega
      obtain ⟨b, p, hb, hp, eb, ep, hcp, h9⟩ := g.at ht
      rw [ep] at hp hcp
      rw [eb] at hb
      have he := end' l t (by omega) (by omega) g.valid
      have e1 := ht_endW hf (by omega) t
      have e2 := ht_brkW hf (by omega) t
      have z1 := QF.addZ (endW l t) (by omega)
      have z2 := QF.addZ (brkW l t) (by omega)
      rw [dwellsF]
      cases hcb : constB l t with
      | false =>
        have := ble_fal.1 hcb
        refine law_Dwells.l10 _ _ l t _ _ ht hp (by simpa using this) (by omega) ?_
        have := ih (t + 1) acc (by omega) (by omega) (by rw [openB_succ, hcb]; intro h; cases h) (by omega)
        rwa [openB_succ, hcb] at this
      | true =>
        have h1 := ble_iff.1 hcb
        rw [cond_true]
        cases ho : openB l t with
        | false =>
          rw [show contB l t = false from by unfold contB; rw [ho]; rfl, cond_false]
          refine law_Dwells.l13 _ _ l t _ _ _ _ _ _ ht hp (by simpa using h1) rfl hb z2 he z1 (by simp) (by simp; omega) (by omega) ?_
          have := ih (t + 1) (acc ++ [(brkW l t, endW l t)]) (by omega) (by simp; omega) (by simp) (by omega)
          rw [openB_succ, hcb] at this
          rwa [List.map_append, show (acc ++ [(brkW l t, endW l t)]).length = (acc.map arcR ++ [arcR (brkW l t, endW l t)]).length from by simp] at this
        | true =>
          have hne := hao ho
          obtain ⟨u, rfl⟩ : ∃ u, t = u + 1 := by
            cases t with
            | zero => rw [openB_zero] at ho; cases ho
            | succ u => exact ⟨u, rfl⟩
          obtain ⟨b', p', hb', hp', eb', ep', hcp', h9'⟩ := g.at (t := u) (by omega)
          rw [ep'] at hp' hcp'
          have h1' := ble_iff.1 (show Nat.ble (pcW l u).length 1 = true from ho)
          have sm := same h1' h1 (chkQ_last hcp') (chkQ_last hcp) (fun y hy => Nat.le_trans (fl_pcW hf (by omega) u y hy) (by omega)) (fun y hy => Nat.le_trans (fl_pcW hf (by omega) (u + 1) y hy) (by omega))
          by_cases hv : evalL (pcW l u) 0 = evalL (pcW l (u + 1)) 0
          · rw [show contB l (u + 1) = true from by unfold contB; rw [ho, Bool.true_and]; exact decide_eq_true hv, cond_true]
            have hpos : 0 < acc.length := List.length_pos_iff.2 hne
            obtain ⟨w, hw⟩ : ∃ w, acc[acc.length - 1]? = some w := ⟨_, List.getElem?_eq_getElem (by omega)⟩
            refine law_Dwells.l11 _ _ l (u + 1) _ _ u _ _ _ _ (acc.length - 1) (arcR w) ht hp (by simpa using h1) rfl (by unfold InI64; omega) (by omega) hp' sm (decide_eq_true hv) (by unfold InI64; omega) he z1 (by omega) (by omega) (by rw [List.getElem?_map, hw]; rfl) (by omega) ?_
            have := ih (u + 1 + 1) (lastTo acc (endW l (u + 1))) (by omega) (by rw [lastTo_len]; omega) (by intro _ e; rw [← List.length_eq_zero_iff, lastTo_len] at e; omega) (by omega)
            rw [openB_succ, hcb, lastTo_len] at this
            have e : (lastTo acc (endW l (u + 1))).map arcR = (acc.map arcR).set (acc.length - 1) ⟨(arcR w).fromV, mkR (endW l (u + 1))⟩ := by
              unfold lastTo
              rw [hw]
              rw [List.map_set]; rfl
            rwa [e] at this
          · rw [show contB l (u + 1) = false from by unfold contB; rw [ho, Bool.true_and]; exact decide_eq_false hv, cond_false]
            refine law_Dwells.l12 _ _ l (u + 1) _ _ u _ _ _ _ _ _ ht hp (by simpa using h1) rfl (by unfold InI64; omega) (by omega) hp' sm (decide_eq_false hv) hb z2 he z1 (by simp) (by simp; omega) (by omega) ?_
            have := ih (u + 1 + 1) (acc ++ [(brkW l (u + 1), endW l (u + 1))]) (by omega) (by simp; omega) (by simp) (by omega)
            rw [openB_succ, hcb] at this
            rwa [List.map_append, show (acc ++ [(brkW l (u + 1), endW l (u + 1))]).length = (acc.map arcR ++ [arcR (brkW l (u + 1), endW l (u + 1))]).length from by simp] at this
  exact law_Dwells.e0 l hck (loop _ 0 [] rfl (by simp) (by rw [openB_zero]; intro h; cases h) (by omega))
theorem DwellsE (l : ALaw) (hc : chkLaw l ≠ 0) (hf : FitW 1073741824 l) : Contract prg 35 [l.pv] (.tup [lpv AArc.cells [], errPV (some (chkLaw l))]) := by
  have hk := Check l hf
  rw [errOf_ne hc] at hk
  exact law_Dwells.e1 l _ hk
theorem BoundsE (l : ALaw) (hc : chkLaw l ≠ 0) (hf : FitW 1073741824 l) : Contract prg 34 [l.pv] (.tup [(mkG 0 0).pv, errPV (some (chkLaw l))]) := by
  have hk := Check l hf
  rw [errOf_ne hc] at hk
  exact law_Bounds.e1 l _ hk
theorem SmoothE (l : ALaw) (k : Int) (hc : chkLaw l ≠ 0) (hf : FitW 1073741824 l) : Contract prg 40 [l.pv, vI k] (.tup [vB false, errPV (some (chkLaw l))]) := by
  have hk := Check l hf
  rw [errOf_ne hc] at hk
  exact law_Smooth.e3 l k _ hk
theorem SmoothK (l : ALaw) (k : Int) (hc : chkLaw l = 0) (hf : FitW 1073741824 l) (hk : k < 0 ∨ 8 < k) : Contract prg 40 [l.pv, vI k] (.tup [vB false, errPV (some 3)]) := by
  have h := Check l hf
  rw [hc] at h
  by_cases h0 : k < 0
  · exact law_Smooth.e0 l k h h0
  · exact law_Smooth.e1 l k h (by omega) (by omega)
end CLw
namespace CRl
theorem value {l : ALaw} (g : Good l) (hf : FitW 1048576 l) {t : Nat} (h : t < l.pieces.length) : Contract prg 99 [polyPV ((pcW l t).map mkR)] (mkR (valW l t)).pv :=
  linkworkref52_value.e0 _ _ (atQ g hf h 0 (by decide))
theorem Dwells (l : ALaw) (g : Good l) (hf : FitW 1048576 l) : Contract prg 43 [l.pv] (lpv AArc.cells ((dwellsW l).map arcR)) := by
  have hlen := g.len
  have hle := g.le
  have loop : ∀ (j t : Nat) (acc : List (Rat × Rat)), l.pieces.length - t = j → acc.length ≤ t → (openB l t = true → acc ≠ []) → t ≤ l.pieces.length → linkworkref52_Dwells.Loop1 acc.length t l (acc.map arcR) (lpv AArc.cells ((dwellsF l j t acc).map arcR)) := by
    intro j
    induction j with
    | zero => intro t acc hj _ _ _; exact linkworkref52_Dwells.l15 _ t l _ (by omega) (by simp)
    | succ j ih =>
      intro t acc hj hal hao htl
      have ht : t < l.pieces.length := by omega
      obtain ⟨b, p, hb, hp, eb, ep, hcp, h9⟩ := g.at ht
      rw [ep] at hp hcp
      rw [eb] at hb
      have he := End l t (by omega) (by omega) g.valid
      have push : constB l t = true → linkworkref52_Dwells.Loop1 ((acc.map arcR ++ [arcR (brkW l t, endW l t)]).length) (t + 1) l (acc.map arcR ++ [arcR (brkW l t, endW l t)]) (lpv AArc.cells ((dwellsF l j (t + 1) (acc ++ [(brkW l t, endW l t)])).map arcR)) := by
        intro hcb
        have := ih (t + 1) (acc ++ [(brkW l t, endW l t)]) (by omega) (by simp; omega) (by simp) (by omega)
        rwa [List.map_append, show (acc ++ [(brkW l t, endW l t)]).length = (acc.map arcR ++ [arcR (brkW l t, endW l t)]).length from by simp] at this
      rw [dwellsF]
      cases hcb : constB l t with
      | false =>
        have := ble_fal.1 hcb
        refine linkworkref52_Dwells.l10 _ t l _ _ ht hp (by simpa using this) (by omega) ?_
        exact ih (t + 1) acc (by omega) (by omega) (by rw [openB_succ, hcb]; intro h; cases h) (by omega)
      | true =>
        have h1 := ble_iff.1 hcb
        rw [cond_true]
        cases ho : openB l t with
        | false =>
          rw [show contB l t = false from by unfold contB; rw [ho]; rfl, cond_false]
          by_cases h0 : t = 0
          · exact linkworkref52_Dwells.l14 _ t l _ _ _ _ ht hp (by simpa using h1) (by omega) hb he (by simp) (by simp; omega) (by omega) (push hcb)
          · obtain ⟨u, rfl⟩ : ∃ u, t = u + 1 := ⟨t - 1, by omega⟩
            obtain ⟨b', p', hb', hp', eb', ep', hcp', h9'⟩ := g.at (t := u) (by omega)
            rw [ep'] at hp' hcp'
            have h1' := ble_fal.1 (show Nat.ble (pcW l u).length 1 = false from ho)
            exact linkworkref52_Dwells.l13 _ (u + 1) l _ _ u _ _ _ ht hp (by simpa using h1) (by omega) (by unfold InI64; omega) (by omega) hp' (by simpa using h1') hb he (by simp) (by simp; omega) (by omega) (push hcb)
        | true =>
          have hne := hao ho
          obtain ⟨u, rfl⟩ : ∃ u, t = u + 1 := by
            cases t with
            | zero => rw [openB_zero] at ho; cases ho
            | succ u => exact ⟨u, rfl⟩
          have hu : u < l.pieces.length := by omega
          obtain ⟨b', p', hb', hp', eb', ep', hcp', h9'⟩ := g.at hu
          rw [ep'] at hp' hcp'
          have h1' := ble_iff.1 (show Nat.ble (pcW l u).length 1 = true from ho)
          have v1 := value g hf hu
          have v2 := value g hf ht
          have c := QR.Cmp _ _ (ht_evalW g hf u (x := 0) (by decide)) (ht_evalW g hf (u + 1) (x := 0) (by decide))
          by_cases hv : valW l u = valW l (u + 1)
          · rw [show contB l (u + 1) = true from by unfold contB; rw [ho, Bool.true_and]; exact decide_eq_true hv, cond_true]
            have hpos : 0 < acc.length := List.length_pos_iff.2 hne
            obtain ⟨w, hw⟩ : ∃ w, acc[acc.length - 1]? = some w := ⟨_, List.getElem?_eq_getElem (by omega)⟩
            refine linkworkref52_Dwells.l11 _ (u + 1) l _ _ u _ u _ _ _ _ _ (acc.length - 1) (arcR w) ht hp (by simpa using h1) (by omega) (by unfold InI64; omega) (by omega) hp' (by simpa using h1') (by omega) hp' v1 v2 c (cmpR_eq.2 hv) (by unfold InI64; omega) he (by omega) (by omega) (by rw [List.getElem?_map, hw]; rfl) (by omega) ?_
            have := ih (u + 1 + 1) (lastTo acc (endW l (u + 1))) (by omega) (by rw [lastTo_len]; omega) (by intro _ e; rw [← List.length_eq_zero_iff, lastTo_len] at e; omega) (by omega)
            rw [lastTo_len] at this
            have e : (lastTo acc (endW l (u + 1))).map arcR = (acc.map arcR).set (acc.length - 1) ⟨(arcR w).fromV, mkR (endW l (u + 1))⟩ := by
              unfold lastTo
              rw [hw]
              rw [List.map_set]; rfl
            rwa [e] at this
          · rw [show contB l (u + 1) = false from by unfold contB; rw [ho, Bool.true_and]; exact decide_eq_false hv, cond_false]
            exact linkworkref52_Dwells.l12 _ (u + 1) l _ _ u _ u _ _ _ _ _ _ ht hp (by simpa using h1) (by omega) (by unfold InI64; omega) (by omega) hp' (by simpa using h1') (by omega) hp' v1 v2 c (fun e => hv (cmpR_eq.1 e)) hb he (by simp) (by simp; omega) (by omega) (push hcb)
  exact linkworkref52_Dwells.e0 l (loop _ 0 [] rfl (by simp) (by rw [openB_zero]; intro h; cases h) (by omega))
end CRl
end Go.Proofs.YtcgbmnkgmepikaaGreat.Sym

namespace Go.Proofs.YtcgbmnkgmepikaaGreat.Sym
open Go Path CInt
set_option linter.unusedVariables false
namespace C52
theorem fitW_le {l : ALaw} {k m : Nat} (h : FitW k l) (hk : k ≤ m) : FitW m l :=
  ⟨fun a ha => ⟨by have := (h.1 a ha).1; omega, by have := (h.1 a ha).2; omega⟩, fun p hp a ha => ⟨by have := (h.2 p hp a ha).1; omega, by have := (h.2 p hp a ha).2; omega⟩⟩
end C52
end Go.Proofs.YtcgbmnkgmepikaaGreat.Sym
namespace Go.Proofs.YtcgbmnkgmepikaaGreat.Sym.Path
open Go
set_option maxRecDepth 20000
set_option linter.unusedVariables false
namespace linkworklaw52_arcs
@[reducible] noncomputable def fn : Func := Tryz.f42
noncomputable def atK1 : List Itm := focus [0, 2, 0, 0, 2, 1, 2, 0, 0, 2, 0, 0] [.code (bodyOf fn)]
def inv1 (a b : List AArc) (i_5 : Nat) : St := ⟨[(0, (.pv (lpv AArc.cells a))), (1, (.pv (lpv AArc.cells b))), (5, (eI (i_5 : Int)))], []⟩
@[reducible] noncomputable def Loop1 (a b : List AArc) (i_5 : Nat) (r : PV) : Prop := L prg fn atK1 (inv1 a b i_5) r
theorem e1 (a b : List AArc) {r : PV} (h1 : a.length = b.length) (hL : Loop1 a b 0 r) : Contract prg 42 [(lpv AArc.cells a), (lpv AArc.cells b)] r :=
  Contract.ofL Tryz.func42 (by kernel_rfl) (L.go mixed tabOk (n := 96) (ns := [1, 1, 1]) (tr := [.reg [], .reg [.none, (iI (a.length : Int)), .none, (iI (b.length : Int))], .dec false, .reg [], .keep [0, 1, 5]]) (cj (o_len AArc.cells a) (cj (o_len AArc.cells b) (cj (dneN_f h1) True.intro))) (by kernel_rfl) hL)
theorem l12 (a b : List AArc) (i_5 : Nat) (v v1 : AArc) (rat rat1 : Bool) {r : PV} (h1 : i_5 < a.length) (h2 : a[i_5]? = some v) (h3 : b[i_5]? = some v1) (h4 : Contract prg 17 [v.fromV.pv, v1.fromV.pv] (vB rat)) (h5 : rat = true) (h6 : Contract prg 17 [v.toV.pv, v1.toV.pv] (vB rat1)) (h7 : rat1 = true) (h8 : (i_5 + 1) < 9223372036854775808) (hL : Loop1 a b (i_5 + 1) r) : Loop1 a b i_5 r :=
  L.go mixed tabOk (n := 138) (ns := [1, 1, 3, 3, 1, 1, 1, 1, 3, 1, 1, 1, 1, 1, 3, 1, 1, 1, 1, 1, 1, 1, 1]) (tr := [.auto, .reg [.none, .none, (iI (a.length : Int))], .dec true, dr 26 0 [.none, .none, (.row i_5 (AArc.cells v)), .none, .none, .none, .none, (.row i_5 (AArc.cells v1)), .none, .none, (.pv (vB rat)), .none, .none, .none, .none, (.row i_5 (AArc.cells v)), .none, .none, .none, .none, (.row i_5 (AArc.cells v1)), .none, .none, (.pv (vB rat1)), .none, (.dec false)], .dec false, .reg [.none, (iI (((i_5 + 1) : Nat) : Int))], .keep [0, 1, 5]]) (cj (o_len AArc.cells a) (cj (dltN_t h1) (cj (o_at AArc.cells (Eq.refl (((i_5 : Nat) : Int) : Int)) h2) (cj (o_at AArc.cells (Eq.refl (((i_5 : Nat) : Int) : Int)) h3) (cj h4 (cj (bnot_f h5) (cj (bnot_f h5) (cj (bnot_f h5) (cj (o_at AArc.cells (Eq.refl (((i_5 : Nat) : Int) : Int)) h2) (cj (bnot_f h5) (cj (bnot_f h5) (cj (bnot_f h5) (cj (bnot_f h5) (cj (bnot_f h5) (cj (o_at AArc.cells (Eq.refl (((i_5 : Nat) : Int) : Int)) h3) (cj (bnot_f h5) (cj (bnot_f h5) (cj (bnot_f h5) (cj h6 (cj (bnot_f h5) (cj (bnot_f h5) (cj (bnot_f h7) (cj (bs_addN h8) True.intro))))))))))))))))))))))) (by kernel_rfl) hL
theorem l13 (a b : List AArc) (i_5 : Nat) (h1 : a.length ≤ i_5) : Loop1 a b i_5 (vB true) :=
  L.done mixed tabOk (n := 129) (ns := [1, 1]) (tr := [.auto, .reg [.none, .none, (iI (a.length : Int))], .dec false, .reg []]) (cj (o_len AArc.cells a) (cj (dltN_f h1) True.intro)) (by kernel_rfl)
end linkworklaw52_arcs
namespace linkworklaw52_LawParts
theorem e1 (l : ALaw) (k : Int) (awa lar awa1 : Bool) (h1 : Contract prg 10 [] (vB awa)) (h2 : awa = true) (h3 : Contract prg 20 [l.pv] (vB lar)) (h4 : lar = true) (h5 : Contract prg 10 [] (vB awa1)) : Contract prg 6 [l.pv, (vI k)] (vB awa1) :=
  Contract.ofL Tryz.func6 (by kernel_rfl) (L.done mixed tabOk (n := 84) (ns := [1, 1, 1, 1, 1, 1, 1]) (tr := [.reg [], .reg [(.pv (vB awa)), .none, .none, .none, (.pv (vB lar)), (.dec false)], .dec true, .reg [(.pv (vB awa1))]]) (cj h1 (cj (bnot_f h2) (cj (bnot_f h2) (cj h3 (cj (bnot_f h2) (cj h4 (cj h5 True.intro))))))) (by kernel_rfl))
theorem e2 (l : ALaw) (k : Int) (awa lar smo : Bool) (smo1 : Option Int) (dwe : List AArc) (dwe1 : Option Int) (bou : ARange) (bou1 : Option Int) (che : Int) (rat rat1 : Bool) (num num1 num2 : Int) (h1 : Contract prg 10 [] (vB awa)) (h2 : awa = true) (h3 : Contract prg 20 [l.pv] (vB lar)) (h4 : lar = false) (h5 : Contract prg 40 [l.pv, (vI k)] (.tup [(vB smo), (errPV smo1)])) (h6 : Contract prg 35 [l.pv] (.tup [(lpv AArc.cells dwe), (errPV dwe1)])) (h7 : Contract prg 34 [l.pv] (.tup [bou.pv, (errPV bou1)])) (h8 : Contract prg 23 [l.pv] (vI che)) (h9 : che ≠ 0) (h10 : smo = false) (h11 : dwe.length = 0) (h12 : Contract prg 17 [bou.lo.pv, (⟨false, [], []⟩ : ARat).pv] (vB rat)) (h13 : rat = true) (h14 : Contract prg 17 [bou.hi.pv, (⟨false, [], []⟩ : ARat).pv] (vB rat1)) (h15 : rat1 = true) (h16 : Contract prg 14 [(errPV smo1)] (vI num)) (h17 : num = che) (h18 : Contract prg 14 [(errPV dwe1)] (vI num1)) (h19 : num1 = che) (h20 : Contract prg 14 [(errPV bou1)] (vI num2)) : Contract prg 6 [l.pv, (vI k)] (vB (num2 == che)) :=
  Contract.ofL Tryz.func6 (by kernel_rfl) (L.done mixed tabOk (n := 123) (ns := [1, 1, 1, 1, 1, 1, 1, 1, 1, 1, 1, 1, 1, 1, 1, 1, 1, 1, 1, 1, 1, 1, 1, 1, 1, 1, 1, 1, 1, 1, 1, 1, 1, 1, 1, 1, 1, 1, 1, 1, 1, 1, 1, 1, 1, 1]) (tr := [.reg [], .reg [(.pv (vB awa)), .none, .none, .none, (.pv (vB lar)), (.dec false)], .dec false, .reg [.none, .none, (.pv (.tup [(vB smo), (errPV smo1)]))], .reg [.none, (.pv (.tup [(lpv AArc.cells dwe), (errPV dwe1)]))], .reg [.none, (.pv (.tup [bou.pv, (errPV bou1)]))], .reg [.none, (.pv (vI che))], .reg [], .dec true, .reg [.none, .none, .none, .none, (iI (dwe.length : Int)), .none, (.dec true), .none, .none, .none, .none, (.pv (vB rat)), (.dec true), .none, .none, .none, .none, (.pv (vB rat1)), (.dec true), .none, .none, (.pv (vI num)), .none, .none, (.dec true), .none, .none, (.pv (vI num1)), .none, .none, (.dec true), .none, .none, (.pv (vI num2)), .none, .none, (.dec true)]]) (cj h1 (cj (bnot_f h2) (cj (bnot_f h2) (cj h3 (cj (bnot_f h2) (cj h4 (cj h5 (cj h6 (cj h7 (cj h8 (cj (dne_t h9) (cj (bnot_t h10) (cj (bnot_t h10) (cj (o_len AArc.cells dwe) (cj (bnot_t h10) (cj (bnot_t h10) (cj (deqN_t h11) (cj (deqN_t h11) (cj (deqN_t h11) (cj (deqN_t h11) (cj h12 (cj (deqN_t h11) (cj h13 (cj h13 (cj h13 (cj h13 (cj h14 (cj h13 (cj h15 (cj h15 (cj h16 (cj h15 (cj h15 (cj h15 (cj (deq_t h17) (cj (deq_t h17) (cj h18 (cj (deq_t h17) (cj (deq_t h17) (cj (deq_t h17) (cj (deq_t h19) (cj (deq_t h19) (cj h20 (cj (deq_t h19) (cj (deq_t h19) (cj (deq_t h19) True.intro)))))))))))))))))))))))))))))))))))))))))))))) (by kernel_rfl))
theorem e3 (l : ALaw) (k : Int) (awa lar smo : Bool) (smo1 : Option Int) (dwe : List AArc) (bou : ARange) (che : Int) (bou2 : ARange) (dwe2 : List AArc) (arc rat rat1 isV : Bool) (h1 : Contract prg 10 [] (vB awa)) (h2 : awa = true) (h3 : Contract prg 20 [l.pv] (vB lar)) (h4 : lar = false) (h5 : Contract prg 40 [l.pv, (vI k)] (.tup [(vB smo), (errPV smo1)])) (h6 : Contract prg 35 [l.pv] (.tup [(lpv AArc.cells dwe), .nilI])) (h7 : Contract prg 34 [l.pv] (.tup [bou.pv, .nilI])) (h8 : Contract prg 23 [l.pv] (vI che)) (h9 : che = 0) (h10 : Contract prg 41 [l.pv] bou2.pv) (h11 : Contract prg 43 [l.pv] (lpv AArc.cells dwe2)) (h12 : Contract prg 42 [(lpv AArc.cells dwe), (lpv AArc.cells dwe2)] (vB arc)) (h13 : arc = true) (h14 : Contract prg 17 [bou.lo.pv, bou2.lo.pv] (vB rat)) (h15 : rat = true) (h16 : Contract prg 17 [bou.hi.pv, bou2.hi.pv] (vB rat1)) (h17 : rat1 = true) (h18 : k < 0) (h19 : smo = false) (h20 : Contract prg 29 [(errPV smo1), (vI 3)] (vB isV)) : Contract prg 6 [l.pv, (vI k)] (vB isV) :=
  Contract.ofL Tryz.func6 (by kernel_rfl) (L.done mixed tabOk (n := 159) (ns := [1, 1, 1, 1, 1, 1, 1, 1, 1, 1, 1, 1, 1, 1, 1, 1, 1, 1, 1, 1, 1, 1, 1, 1, 1, 1, 1, 1, 1, 1, 1, 1, 1, 1, 1, 1, 1, 1, 1, 1, 1, 1, 1, 1, 1]) (tr := [.reg [], .reg [(.pv (vB awa)), .none, .none, .none, (.pv (vB lar)), (.dec false)], .dec false, .reg [.none, .none, (.pv (.tup [(vB smo), (errPV smo1)]))], .reg [.none, (.pv (.tup [(lpv AArc.cells dwe), .nilI]))], .reg [.none, (.pv (.tup [bou.pv, .nilI]))], .reg [.none, (.pv (vI che))], .reg [], .dec false, .reg [.none, (.pv bou2.pv)], .reg [.none, .none, .none, .none, .none, .none, .none, .none, .none, (.pv (lpv AArc.cells dwe2)), (.pv (vB arc)), .none, .none, .none, .none, .none, .none, .none, (.pv (vB rat)), .none, (.dec false), .none, .none, .none, .none, .none, (.pv (vB rat1)), .none, (.dec false)], .dec false, .reg [.none, .none, .none, .skip, .skip, (.dec true)], .auto, .reg [.none, .none, .none, .none, (.pv (vB isV)), (.dec true)]]) (cj h1 (cj (bnot_f h2) (cj (bnot_f h2) (cj h3 (cj (bnot_f h2) (cj h4 (cj h5 (cj h6 (cj h7 (cj h8 (cj (dne_f h9) (cj h10 (cj (Eq.refl false) (cj (Eq.refl false) (cj (Eq.refl false) (cj (Eq.refl false) (cj (Eq.refl false) (cj h11 (cj (Eq.refl false) (cj h12 (cj (Eq.refl false) (cj (bnot_f h13) (cj (bnot_f h13) (cj (bnot_f h13) (cj (bnot_f h13) (cj (bnot_f h13) (cj h14 (cj (bnot_f h13) (cj (bnot_f h13) (cj (bnot_f h15) (cj (bnot_f h15) (cj (bnot_f h15) (cj (bnot_f h15) (cj (bnot_f h15) (cj h16 (cj (bnot_f h15) (cj (bnot_f h15) (cj (bnot_f h17) (cj (dlt_t h18) (cj (dlt_t h18) (cj (dlt_t h18) (cj (bnot_t h19) (cj (bnot_t h19) (cj h20 (cj (bnot_t h19) True.intro))))))))))))))))))))))))))))))))))))))))))))) (by kernel_rfl))
theorem e4 (l : ALaw) (k : Int) (awa lar smo : Bool) (smo1 : Option Int) (dwe : List AArc) (bou : ARange) (che : Int) (bou2 : ARange) (dwe2 : List AArc) (arc rat rat1 isV : Bool) (h1 : Contract prg 10 [] (vB awa)) (h2 : awa = true) (h3 : Contract prg 20 [l.pv] (vB lar)) (h4 : lar = false) (h5 : Contract prg 40 [l.pv, (vI k)] (.tup [(vB smo), (errPV smo1)])) (h6 : Contract prg 35 [l.pv] (.tup [(lpv AArc.cells dwe), .nilI])) (h7 : Contract prg 34 [l.pv] (.tup [bou.pv, .nilI])) (h8 : Contract prg 23 [l.pv] (vI che)) (h9 : che = 0) (h10 : Contract prg 41 [l.pv] bou2.pv) (h11 : Contract prg 43 [l.pv] (lpv AArc.cells dwe2)) (h12 : Contract prg 42 [(lpv AArc.cells dwe), (lpv AArc.cells dwe2)] (vB arc)) (h13 : arc = true) (h14 : Contract prg 17 [bou.lo.pv, bou2.lo.pv] (vB rat)) (h15 : rat = true) (h16 : Contract prg 17 [bou.hi.pv, bou2.hi.pv] (vB rat1)) (h17 : rat1 = true) (h18 : 0 ≤ k) (h19 : 8 < k) (h20 : smo = false) (h21 : Contract prg 29 [(errPV smo1), (vI 3)] (vB isV)) : Contract prg 6 [l.pv, (vI k)] (vB isV) :=
  Contract.ofL Tryz.func6 (by kernel_rfl) (L.done mixed tabOk (n := 159) (ns := [1, 1, 1, 1, 1, 1, 1, 1, 1, 1, 1, 1, 1, 1, 1, 1, 1, 1, 1, 1, 1, 1, 1, 1, 1, 1, 1, 1, 1, 1, 1, 1, 1, 1, 1, 1, 1, 1, 1, 1, 1, 1, 1, 1, 1, 1]) (tr := [.reg [], .reg [(.pv (vB awa)), .none, .none, .none, (.pv (vB lar)), (.dec false)], .dec false, .reg [.none, .none, (.pv (.tup [(vB smo), (errPV smo1)]))], .reg [.none, (.pv (.tup [(lpv AArc.cells dwe), .nilI]))], .reg [.none, (.pv (.tup [bou.pv, .nilI]))], .reg [.none, (.pv (vI che))], .reg [], .dec false, .reg [.none, (.pv bou2.pv)], .reg [.none, .none, .none, .none, .none, .none, .none, .none, .none, (.pv (lpv AArc.cells dwe2)), (.pv (vB arc)), .none, .none, .none, .none, .none, .none, .none, (.pv (vB rat)), .none, (.dec false), .none, .none, .none, .none, .none, (.pv (vB rat1)), .none, (.dec false)], .dec false, .reg [.none, .none, .none, .none, .none, (.dec false)], .dec true, .reg [.none, .none, .none, .none, (.pv (vB isV)), (.dec true)]]) (cj h1 (cj (bnot_f h2) (cj (bnot_f h2) (cj h3 (cj (bnot_f h2) (cj h4 (cj h5 (cj h6 (cj h7 (cj h8 (cj (dne_f h9) (cj h10 (cj (Eq.refl false) (cj (Eq.refl false) (cj (Eq.refl false) (cj (Eq.refl false) (cj (Eq.refl false) (cj h11 (cj (Eq.refl false) (cj h12 (cj (Eq.refl false) (cj (bnot_f h13) (cj (bnot_f h13) (cj (bnot_f h13) (cj (bnot_f h13) (cj (bnot_f h13) (cj h14 (cj (bnot_f h13) (cj (bnot_f h13) (cj (bnot_f h15) (cj (bnot_f h15) (cj (bnot_f h15) (cj (bnot_f h15) (cj (bnot_f h15) (cj h16 (cj (bnot_f h15) (cj (bnot_f h15) (cj (bnot_f h17) (cj (dlt_f h18) (cj (dlt_f h18) (cj (dlt_f h18) (cj (dlt_t h19) (cj (bnot_t h20) (cj (bnot_t h20) (cj h21 (cj (bnot_t h20) True.intro)))))))))))))))))))))))))))))))))))))))))))))) (by kernel_rfl))
theorem e5 (l : ALaw) (k : Int) (awa lar smo : Bool) (dwe : List AArc) (bou : ARange) (che : Int) (bou2 : ARange) (dwe2 : List AArc) (arc rat rat1 smo2 : Bool) (h1 : Contract prg 10 [] (vB awa)) (h2 : awa = true) (h3 : Contract prg 20 [l.pv] (vB lar)) (h4 : lar = false) (h5 : Contract prg 40 [l.pv, (vI k)] (.tup [(vB smo), .nilI])) (h6 : Contract prg 35 [l.pv] (.tup [(lpv AArc.cells dwe), .nilI])) (h7 : Contract prg 34 [l.pv] (.tup [bou.pv, .nilI])) (h8 : Contract prg 23 [l.pv] (vI che)) (h9 : che = 0) (h10 : Contract prg 41 [l.pv] bou2.pv) (h11 : Contract prg 43 [l.pv] (lpv AArc.cells dwe2)) (h12 : Contract prg 42 [(lpv AArc.cells dwe), (lpv AArc.cells dwe2)] (vB arc)) (h13 : arc = true) (h14 : Contract prg 17 [bou.lo.pv, bou2.lo.pv] (vB rat)) (h15 : rat = true) (h16 : Contract prg 17 [bou.hi.pv, bou2.hi.pv] (vB rat1)) (h17 : rat1 = true) (h18 : 0 ≤ k) (h19 : k ≤ 8) (h20 : Contract prg 44 [l.pv, (vI k)] (vB smo2)) : Contract prg 6 [l.pv, (vI k)] (vB (smo == smo2)) :=
  Contract.ofL Tryz.func6 (by kernel_rfl) (L.done mixed tabOk (n := 162) (ns := [1, 1, 1, 1, 1, 1, 1, 1, 1, 1, 1, 1, 1, 1, 1, 1, 1, 1, 1, 1, 1, 1, 1, 1, 1, 1, 1, 1, 1, 1, 1, 1, 1, 1, 1, 1, 1, 1, 1, 1, 1, 1, 1, 1, 1, 1, 1, 1]) (tr := [.reg [], .reg [(.pv (vB awa)), .none, .none, .none, (.pv (vB lar)), (.dec false)], .dec false, .reg [.none, .none, (.pv (.tup [(vB smo), .nilI]))], .reg [.none, (.pv (.tup [(lpv AArc.cells dwe), .nilI]))], .reg [.none, (.pv (.tup [bou.pv, .nilI]))], .reg [.none, (.pv (vI che))], .reg [], .dec false, .reg [.none, (.pv bou2.pv)], .reg [.none, .none, .none, .none, .none, .none, .none, .none, .none, (.pv (lpv AArc.cells dwe2)), (.pv (vB arc)), .none, .none, .none, .none, .none, .none, .none, (.pv (vB rat)), .none, (.dec false), .none, .none, .none, .none, .none, (.pv (vB rat1)), .none, (.dec false)], .dec false, .reg [.none, .none, .none, .none, .none, (.dec false)], .dec false, .reg [.none, .none, .none, .none, .none, .none, (.pv (vB smo2))]]) (cj h1 (cj (bnot_f h2) (cj (bnot_f h2) (cj h3 (cj (bnot_f h2) (cj h4 (cj h5 (cj h6 (cj h7 (cj h8 (cj (dne_f h9) (cj h10 (cj (Eq.refl false) (cj (Eq.refl false) (cj (Eq.refl false) (cj (Eq.refl false) (cj (Eq.refl false) (cj h11 (cj (Eq.refl false) (cj h12 (cj (Eq.refl false) (cj (bnot_f h13) (cj (bnot_f h13) (cj (bnot_f h13) (cj (bnot_f h13) (cj (bnot_f h13) (cj h14 (cj (bnot_f h13) (cj (bnot_f h13) (cj (bnot_f h15) (cj (bnot_f h15) (cj (bnot_f h15) (cj (bnot_f h15) (cj (bnot_f h15) (cj h16 (cj (bnot_f h15) (cj (bnot_f h15) (cj (bnot_f h17) (cj (dlt_f h18) (cj (dlt_f h18) (cj (dlt_f h18) (cj (dlt_f h19) (cj (Eq.refl true) (cj (Eq.refl true) (cj (Eq.refl true) (cj (Eq.refl true) (cj h20 (cj (Eq.refl true) True.intro)))))))))))))))))))))))))))))))))))))))))))))))) (by kernel_rfl))
end linkworklaw52_LawParts
end Go.Proofs.YtcgbmnkgmepikaaGreat.Sym.Path
namespace Go.Proofs.YtcgbmnkgmepikaaGreat.Sym
open Go Path CInt
set_option linter.unusedVariables false
namespace C52
theorem arcs (d : List (Rat × Rat)) (hl : d.length ≤ 1000) (hf : ∀ p ∈ d, ht p.1 ≤ 68719476736 ∧ ht p.2 ≤ 68719476736) : Contract prg 42 [lpv AArc.cells (d.map arcR), lpv AArc.cells (d.map arcR)] (vB true) := by
  have rat : ∀ q : Rat, ht q ≤ 68719476736 → Contract prg 17 [(mkR q).pv, (mkR q).pv] (vB true) := by
    intro q hq
    have h := fit_mkRk hq
    have := CBa.Rat (mkR q) (mkR q) (by omega) (by omega)
    rwa [eqR_self] at this
  have loop : ∀ (j t : Nat), d.length - t = j → linkworklaw52_arcs.Loop1 (d.map arcR) (d.map arcR) t (vB true) := by
    intro j
    induction j with
    | zero => intro t hj; exact linkworklaw52_arcs.l13 _ _ t (by rw [List.length_map]; omega)
    | succ j ih =>
      intro t hj
      obtain ⟨v, hv⟩ : ∃ v, d[t]? = some v := ⟨_, List.getElem?_eq_getElem (by omega)⟩
      have hm : (d.map arcR)[t]? = some (arcR v) := by rw [List.getElem?_map, hv]; rfl
      obtain ⟨f1, f2⟩ := hf v (List.mem_of_getElem? hv)
      exact linkworklaw52_arcs.l12 _ _ t _ _ _ _ (by rw [List.length_map]; omega) hm hm (rat _ f1) rfl (rat _ f2) rfl (by omega) (ih (t + 1) (by omega))
  exact linkworklaw52_arcs.e1 _ _ rfl (loop _ 0 rfl)
theorem dwellsF_props (l : ALaw) (k : Nat) (hf : FitW k l) (hk : 1 ≤ k) : ∀ (j t : Nat) (acc : List (Rat × Rat)), (∀ p ∈ acc, ht p.1 ≤ k ∧ ht p.2 ≤ k) → (dwellsF l j t acc).length ≤ acc.length + j ∧ ∀ p ∈ dwellsF l j t acc, ht p.1 ≤ k ∧ ht p.2 ≤ k
  | 0, _, acc, h => ⟨Nat.le_refl _, h⟩
  | j + 1, t, acc, h => by
    rw [dwellsF]
    have he := ht_endW hf hk t
    have hb := ht_brkW hf hk t
    cases constB l t with
    | false =>
      obtain ⟨a, b⟩ := dwellsF_props l k hf hk j (t + 1) acc h
      exact ⟨by rw [cond_false]; omega, b⟩
    | true =>
      rw [cond_true]
      cases contB l t with
      | false =>
        obtain ⟨a, b⟩ := dwellsF_props l k hf hk j (t + 1) (acc ++ [(brkW l t, endW l t)]) (fun p hp => by
          rcases List.mem_append.1 hp with hp | hp
          · exact h p hp
          · rw [List.mem_singleton.1 hp]; exact ⟨hb, he⟩)
        exact ⟨by rw [List.length_append, List.length_singleton] at a; rw [cond_false]; omega, b⟩
      | true =>
        obtain ⟨a, b⟩ := dwellsF_props l k hf hk j (t + 1) (lastTo acc (endW l t)) (fun p hp => by
          unfold lastTo at hp
          split at hp
          · rename_i w hw
            rcases List.mem_or_eq_of_mem_set hp with hp | hp
            · exact h p hp
            · rw [hp]; exact ⟨(h w (List.mem_of_getElem? hw)).1, he⟩
          · exact h p hp)
        exact ⟨by rw [lastTo_len] at a; rw [cond_true]; omega, b⟩
theorem boundsF_fit {l : ALaw} (g : Good l) (hf : FitW 1048576 l) : ∀ (j t : Nat) (u : Rat × Rat), ht u.1 ≤ 17179869184 → ht u.2 ≤ 17179869184 → ht (boundsF l j t u).1 ≤ 17179869184 ∧ ht (boundsF l j t u).2 ≤ 17179869184
  | 0, _, u, h1, h2 => ⟨h1, h2⟩
  | j + 1, t, u, h1, h2 => by
    obtain ⟨o1, o2⟩ := ht_overW g hf t
    rw [boundsF]
    cases Nat.beq t 0 with
    | true => exact boundsF_fit g hf j (t + 1) _ o1 o2
    | false => exact boundsF_fit g hf j (t + 1) _ (ht_min _ _ h1 o1) (ht_max _ _ h2 o2)
theorem ratR (q : Rat) (hq : ht q ≤ 68719476736) : Contract prg 17 [(mkR q).pv, (mkR q).pv] (vB true) := by
  have h := fit_mkRk hq
  have := CBa.Rat (mkR q) (mkR q) (by omega) (by omega)
  rwa [eqR_self] at this
theorem LawParts (l : ALaw) (k : Int) (hh : Held l) (hk : InI64 k) : Contract prg 6 [l.pv, vI k] (vB true) := by
  rcases large l hh with hl | ⟨⟨s1, s2, s3, s4⟩, hl⟩
  · exact linkworklaw52_LawParts.e1 l k _ _ _ awake rfl hl rfl awake
  have hck2 := CRl.Check l (fitW_le s3 (by omega))
  by_cases hc : chkLaw l = 0
  · have g := good_of hc
    rw [hc] at hck2
    have hlen := g.len
    have hle := g.le
    have f1 : FitW 1048576 l := fitW_le s3 (by omega)
    have hd := CLw.Dwells l hc f1
    have hd2 := CRl.Dwells l g f1
    have hb := CLw.Bounds l hc f1
    have hb2 := CRl.Bounds l g f1
    obtain ⟨p1, p2⟩ := dwellsF_props l 4 s3 (by omega) l.pieces.length 0 [] (fun p hp => by cases hp)
    have ha := arcs (dwellsW l) (by have : (dwellsW l).length ≤ ([] : List (Rat × Rat)).length + l.pieces.length := p1
                                    simp at this; omega) (fun p hp => by have := p2 p hp; omega)
    obtain ⟨b1, b2⟩ := boundsF_fit g f1 l.pieces.length 0 (0, 0) (by decide) (by decide)
    have r1 := ratR (boundsW l).1 (Nat.le_trans b1 (by omega))
    have r2 := ratR (boundsW l).2 (Nat.le_trans b2 (by omega))
    by_cases h0 : k < 0
    · have hs := CLw.SmoothK l k hc (fitW_le s3 (by omega)) (Or.inl h0)
      exact linkworklaw52_LawParts.e3 l k _ _ _ _ _ _ _ _ _ _ _ _ _ awake rfl hl rfl hs hd hb hck2 rfl hb2 hd2 ha rfl r1 rfl r2 rfl h0 rfl (CBa.Is (some 3) 3)
    · by_cases h8 : 8 < k
      · have hs := CLw.SmoothK l k hc (fitW_le s3 (by omega)) (Or.inr h8)
        exact linkworklaw52_LawParts.e4 l k _ _ _ _ _ _ _ _ _ _ _ _ _ awake rfl hl rfl hs hd hb hck2 rfl hb2 hd2 ha rfl r1 rfl r2 rfl (by omega) h8 rfl (CBa.Is (some 3) 3)
      · obtain ⟨n, rfl⟩ : ∃ n : Nat, k = (n : Int) := ⟨k.toNat, by omega⟩
        have hs := CLw.Smooth l n hc (fitW_le s3 (by omega)) (by omega)
        have hs2 := CRl.Smooth l n hc (fitW_le s3 (by omega)) (by omega)
        have := linkworklaw52_LawParts.e5 l n _ _ _ _ _ _ _ _ _ _ _ _ awake rfl hl rfl hs hd hb hck2 rfl hb2 hd2 ha rfl r1 rfl r2 rfl (by omega) (by omega) hs2
        rwa [show (smoothF (n + 1) l == smoothF (n + 1) l) = true from by simp] at this
  · have hs := CLw.SmoothE l k hc (fitW_le s3 (by omega))
    have hd := CLw.DwellsE l hc (fitW_le s3 (by omega))
    have hb := CLw.BoundsE l hc (fitW_le s3 (by omega))
    have hz := ratR 0 (by decide)
    have := linkworklaw52_LawParts.e2 l k _ _ _ _ _ _ _ _ _ _ _ _ _ _ awake rfl hl rfl hs hd hb hck2 hc rfl rfl hz rfl hz rfl (CBa.Num _) rfl (CBa.Num _) rfl (CBa.Num _)
    rwa [show ((some (chkLaw l)).getD 0 == chkLaw l) = true from by simp] at this
end C52
end Go.Proofs.YtcgbmnkgmepikaaGreat.Sym
namespace Go.Proofs.YtcgbmnkgmepikaaGreat.Sym
open Go Go.RowKit Go.ChangeShapes Go.WideShapes Go.ChangeAt
set_option linter.unusedVariables false
namespace RowParts
theorem own : ownKnob Tryz.prog.godebug = none := by kernel_rfl
theorem laid : laidOutB prg = true := by kernel_rfl
theorem okArg {P : Program} {W : World} {base : Nat} {ps : Array TypeId} {args : Array Value} (hval : ∀ (j : Nat) t v, ps[j]? = some t → args[j]? = some v → Value.okWide P W .any base t v) (j : Nat) {t : TypeId} {v : Value} (h1 : ps[j]? = some t) (h2 : args[j]? = some v) : Value.okWide P W .any base t v := hval j t v h1 h2
set_option maxRecDepth 100000 in
theorem contract (H : Type) (enc : TypeId × Value → H) (W : World) (base : Nat) (args : Array Value) (ds gs : List (DataW H)) (before : List MemPlace)
    (hval : ∀ (j : Nat) t v, Tryz.f6.params[j]? = some t → args[j]? = some v → Value.okWide Tryz.prog W .any base t v)
    (hW : DataW.Whole enc Tryz.prog Tryz.f6.params.toList Rows.lawPartsSpec.vars false W args.toList ds gs before)
    (hz : (DataW.weightsEach Tryz.prog (Tryz.f6.params.toList ++ Rows.lawPartsSpec.plain.varTypes Tryz.prog) (ds ++ gs)).all (· ≤ reachBytes) = true) :
    Calls Tryz.prog 6 args W fun e W' => ∃ v, e = .returned v ∧ Rows.lawPartsSpec.post enc Tryz.prog Tryz.f6 false true false false W args v W' := by
  have hW' := hW
  obtain ⟨p, q, hA, hV, rfl, hfz, hnd⟩ := hW
  have hp : Tryz.f6.params = #[47, 3] := by kernel_rfl
  rw [hp] at hA hval hz
  obtain ⟨v0, vs0, d0, ds0, p0, q0, hargs, rfl, rfl, h0, r0⟩ := trodAll_cons hA
  obtain ⟨v1, vs1, d1, ds1, p1, q1, rfl, rfl, rfl, h1, r1⟩ := trodAll_cons r0
  obtain ⟨rfl, rfl, rfl⟩ := trodAll_nil r1
  obtain rfl : args = #[v0, v1] := by cases args; simp_all
  obtain ⟨rfl, rfl⟩ := trodVars_none hV
  obtain ⟨n0, hn0⟩ := h0
  have hw0 : ∀ k ∈ d0.weights prg 47, k ≤ reachBytes := by
    intro k hk
    have := List.all_eq_true.1 hz k (DataW.weights_mem_each (j := 0) rfl rfl k hk)
    simpa using this
  obtain ⟨x0, hx0, b0⟩ := opens_ALaw enc W 0 (fun _ => true) true n0 _ _ hn0 hw0
  obtain ⟨fs0, hu0, _⟩ := flds_spec (show fldsOf (prg.underlying 47) = some [(29, 0), (45, 1)] by kernel_rfl)
  have hv0 : Value.okWide Tryz.prog W .any base 47 v0 := okArg hval 0 (by simp) (by simp)
  have hrd0 : Rd (Old W) W x0.pv v0 := rd_struct (P := Tryz.prog) (cs := x0.cells) hu0 hv0 hx0
  obtain ⟨n1, hn1⟩ := h1
  have hw1 : ∀ k ∈ d1.weights prg 3, k ≤ reachBytes := by
    intro k hk
    have := List.all_eq_true.1 hz k (DataW.weights_mem_each (j := 1) rfl rfl k hk)
    simpa using this
  obtain ⟨x1, hx1, b1⟩ := (opens_int (k := .i64) (show prg.underlying 3 = some (.int .i64) by kernel_rfl)) enc W 0 (fun _ => true) true n1 _ _ hn1 hw1
  obtain ⟨m1, rfl, _, _, _⟩ := open_int (show Tryz.prog.underlying 3 = some (.int .i64) by kernel_rfl) (okArg hval 1 (t := 3) (v := v1) (by simp) (by simp)) (⟨n1, hn1⟩ : DataW.Trod enc Tryz.prog W 0 (fun _ => true) true 3 v1 d1 p1)
  have hrd1 : Rd (Old W) W (vI x1) (.int .i64 m1) := by
    have := (hx1.2 0 _ _ rfl rfl).2
    exact this
  have hc := C52.LawParts x0 x1 b0 (i64_val b1)
  refine (hc.2 (Old W) W (fun _ => none) #[v0, .int .i64 m1] (fun b hb => hb) ⟨(fun r sc h => by cases h), (fun r r' b h => by obtain ⟨_, h⟩ := h)⟩ rfl ?_).mono ?_
  · intro j e v he hv
    cases j with
    | zero => simp at he hv; subst he hv; exact hrd0
    | succ j =>
      cases j with
      | zero => simp at he hv; subst he hv; exact hrd1
      | succ j => simp at he
  · intro e W' ⟨v, β', he, _, hk, _, hv, _⟩
    subst he
    have hv : Rd _ W' (vB true) v := hv
    cases hv
    have hk' : Keeps (fun _ => False) W W' := ⟨hk.os, hk.tape, hk.output, hk.size, fun k h1 _ => hk.block k h1 (fun ⟨y, hy, _⟩ => by obtain ⟨_, hy⟩ := hy), hk.shape⟩
    refine ⟨_, rfl, post_true (tb := 4) hW' hk' rfl (by kernel_rfl) (by kernel_rfl) rfl rfl rfl laid ?_⟩
    rw [hp]
    intro t ht
    have : t = 47 ∨ t = 3 := by simpa using ht
    rcases this with rfl | rfl
    all_goals exact ⟨by kernel_rfl, of_decide_eq_true (by kernel_rfl)⟩
set_option maxRecDepth 100000 in
theorem lifted (os : Os) (started : os.Started) (H : Type) (enc : TypeId × Value → H) :
    ReturnsInHanded {} Tryz.checked os 6 .any (Rows.lawPartsSpec.pre6 enc Tryz.prog Tryz.f6 Rows.lawPartsRow.domain false) (Rows.lawPartsSpec.post enc Tryz.prog Tryz.f6 false true false false) := by
  refine returnsInHanded_of_change_sized (C := Tryz.checked) own started (by kernel_rfl) Tryz.func6
    (ChangeSpec.witness6 (enc := enc) (C := Tryz.checked) false ⟨#[], #[.agg #[.slice none 0 0, .slice none 0 0], .int .i64 0], []⟩ 8 (by kernel_rfl) (by kernel_rfl) (by kernel_rfl) (by kernel_rfl)) ?_
  intro W base args ds gs before hval hW _ hz _
  exact contract H enc W base args ds gs before hval hW hz
theorem proved : Rows.LawPartsSaid :=
  OpenClaim.holds_of_wide 6 Tryz.f6 rfl rfl rfl rfl rfl rfl rfl ⟨rfl, rfl, rfl, rfl, rfl⟩ rfl rfl rfl rfl rfl (by kernel_rfl) Tryz.func6 (by kernel_rfl)
    (of_decide_eq_true (by kernel_rfl)) (by unfold Func.isWrapper; first | (rw [if_pos (by decide +kernel)]; kernel_rfl) | (rw [if_neg (by decide +kernel)]; exact ⟨rfl, rfl⟩))
    (fun os started H enc _ => lifted os started H enc)
end RowParts
end Go.Proofs.YtcgbmnkgmepikaaGreat.Sym
