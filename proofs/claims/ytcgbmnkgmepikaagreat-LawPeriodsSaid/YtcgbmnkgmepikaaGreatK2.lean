/- The statement LawPeriods is proved: periods, bounds and dwells of layer 52; no condition. -/
import Derived.Test.YtcgbmnkgmepikaaGreatK1
import Derived.Test.YtcgbmnkgmepikaaGreatK0
namespace Go.Proofs.YtcgbmnkgmepikaaGreat.Sym
open Go Path CInt
set_option linter.unusedVariables false
def vals (p : List ARat) : List Rat := p.map ARat.val
abbrev FitP (k : Nat) (p : List ARat) : Prop := ∀ a ∈ p, a.num.length ≤ k ∧ a.den.length ≤ k
abbrev Fl (k : Nat) (q : List Rat) : Prop := ∀ x ∈ q, ht x ≤ k
def trimL : List Rat → List Rat
  | [] => []
  | a :: r => bif (trimL r).isEmpty && decide (a = 0) then [] else a :: trimL r
theorem trimL_zero : ∀ q : List Rat, trimL (q ++ [0]) = trimL q
  | [] => rfl
  | a :: r => by
    show (bif (trimL (r ++ [0])).isEmpty && decide (a = 0) then [] else a :: trimL (r ++ [0])) = _
    rw [trimL_zero r]; rfl
theorem trimL_ne {v : Rat} (h : v ≠ 0) : ∀ {q : List Rat}, trimL (q ++ [v]) = q ++ [v]
  | [] => by
    show (bif (trimL []).isEmpty && decide (v = 0) then [] else v :: trimL []) = [v]
    rw [decide_eq_false h, Bool.and_false]; rfl
  | a :: r => by
    show (bif (trimL (r ++ [v])).isEmpty && decide (a = 0) then [] else a :: trimL (r ++ [v])) = _
    rw [trimL_ne h]
    cases r <;> rfl
theorem snoc_of {α : Type} {q : List α} {n : Nat} {v : α} (h : q[n]? = some v) (hl : q.length = n + 1) : q = q.take n ++ [v] := by
  have := List.take_add_one (l := q) (i := n)
  rw [h, List.take_of_length_le (by omega)] at this
  exact this
theorem fl_vals {k : Nat} {p : List ARat} (h : FitP k p) (hk : 1 ≤ k) : Fl k (vals p) := by
  intro x hx
  unfold vals at hx
  obtain ⟨a, ha, rfl⟩ := List.mem_map.1 hx
  exact ht_fit (h a ha).1 (h a ha).2 hk
theorem fit_map {q : List Rat} (h : Fl 274877906944 q) : FitP 274877906944 (q.map mkR) := by
  intro a ha
  obtain ⟨x, hx, rfl⟩ := List.mem_map.1 ha
  exact fit_mkR (h x hx)
theorem fit_mkRk {q : Rat} {k : Nat} (h : ht q ≤ k) : (mkR q).num.length ≤ k ∧ (mkR q).den.length ≤ k := by
  by_cases h0 : q = 0
  · subst h0; constructor <;> simp [mkR_zero]
  · rw [mkR_ne h0]
    exact ⟨Nat.le_trans (ht_num q) h, Nat.le_trans (ht_den q) h⟩
theorem fit_mapk {q : List Rat} {k : Nat} (h : Fl k q) : FitP k (q.map mkR) := by
  intro a ha
  obtain ⟨x, hx, rfl⟩ := List.mem_map.1 ha
  exact fit_mkRk (h x hx)
theorem vals_mkR (q : List Rat) : vals (q.map mkR) = q := by
  unfold vals
  rw [List.map_map]
  conv => rhs; rw [← List.map_id q]
  exact List.map_congr_left (fun x _ => mkR_val x)
theorem vals_of {p : List ARat} (h : p.all ARat.valid = true) : (vals p).map mkR = p := by
  unfold vals
  rw [List.map_map]
  conv => rhs; rw [← List.map_id p]
  exact List.map_congr_left (fun x hx => mkR_of (List.all_eq_true.1 h x hx))
theorem vals_drop {p : List ARat} {n : Nat} {v : ARat} (h : p[n]? = some v) : (vals p).drop n = v.val :: (vals p).drop (n + 1) := by
  obtain ⟨h1, h2⟩ := List.getElem?_eq_some_iff.1 h
  unfold vals
  rw [List.drop_eq_getElem_cons (by simpa using h1), List.getElem_map, h2]
def lastZ (q : List Rat) : Bool := match q.getLast? with
  | none => false
  | some v => decide (v = 0)
theorem lastZ_true {p : List ARat} (h : lastZ (vals p) = true) : ∃ v, 0 < p.length ∧ p[p.length - 1]? = some v ∧ v.val = 0 := by
  unfold lastZ vals at h
  rw [List.getLast?_map, List.getLast?_eq_getElem?] at h
  cases hv : p[p.length - 1]? with
  | none => rw [hv] at h; cases h
  | some v =>
    rw [hv] at h
    have h : decide (v.val = 0) = true := h
    exact ⟨v, by have := (List.getElem?_eq_some_iff.1 hv).1; omega, rfl, of_decide_eq_true h⟩
theorem lastZ_false {p : List ARat} (h : lastZ (vals p) = false) (h0 : p.length ≠ 0) : ∃ v, p[p.length - 1]? = some v ∧ v.val ≠ 0 := by
  unfold lastZ vals at h
  rw [List.getLast?_map, List.getLast?_eq_getElem?] at h
  obtain ⟨v, hv⟩ : ∃ v, p[p.length - 1]? = some v := ⟨_, List.getElem?_eq_getElem (by omega)⟩
  rw [hv] at h
  have h : decide (v.val = 0) = false := h
  exact ⟨v, hv, of_decide_eq_false h⟩
def chk (p : List ARat) : Int := if 65 < p.length then 4 else bif p.all ARat.valid then (bif lastZ (vals p) then 8 else 0) else 2
def errOf (n : Int) : Option Int := if n = 0 then none else some n
theorem errOf_ne {n : Int} (h : n ≠ 0) : errOf n = some n := if_neg h
theorem chk_len {p : List ARat} (h : chk p = 0) : p.length ≤ 65 := by
  unfold chk at h
  split at h
  · cases h
  · omega
theorem chk_valid {p : List ARat} (h : chk p = 0) : p.all ARat.valid = true := by
  unfold chk at h
  split at h
  · cases h
  · cases hv : p.all ARat.valid with
    | true => rfl
    | false => rw [hv] at h; cases h
theorem chk_last {p : List ARat} (h : chk p = 0) : lastZ (vals p) = false := by
  unfold chk at h
  split at h
  · cases h
  · cases hv : p.all ARat.valid with
    | false => rw [hv] at h; cases h
    | true =>
      rw [hv] at h
      cases hz : lastZ (vals p) with
      | false => rfl
      | true => rw [hz] at h; cases h
def evalL : List Rat → Rat → Rat
  | [], _ => 0
  | a :: r, x => evalL r x * x + a
theorem ht_eval (q : List Rat) (x : Rat) (k : Nat) (h : Fl k q) (hx : ht x ≤ k) : ht (evalL q x) ≤ q.length * (2 * k + 1) + 1 := by
  induction q with
  | nil =>
    have : ht (evalL [] x) = 1 := ht_zero
    omega
  | cons a r ih =>
    have h1 := ih (fun y hy => h y (List.mem_cons_of_mem _ hy))
    have h2 := h a (List.mem_cons_self ..)
    have h3 := ht_mul (evalL r x) x
    have h4 := ht_add (evalL r x * x) a
    show ht (evalL r x * x + a) ≤ _
    rw [List.length_cons, Nat.add_mul]
    omega
def derI : Nat → List Rat → List Rat
  | _, [] => []
  | i, a :: r => ((i : Int) : Rat) * a :: derI (i + 1) r
def deriveL (q : List Rat) : List Rat := trimL (derI 1 (q.drop 1))
theorem derI_len : ∀ (q : List Rat) (i : Nat), (derI i q).length = q.length
  | [], _ => rfl
  | a :: r, i => by rw [derI, List.length_cons, List.length_cons, derI_len r]
theorem derI_snoc : ∀ (q : List Rat) (i : Nat) (a : Rat), derI i (q ++ [a]) = derI i q ++ [(((i + q.length : Nat) : Int) : Rat) * a]
  | [], i, a => rfl
  | b :: r, i, a => by
    rw [List.cons_append, derI, derI, derI_snoc r (i + 1) a, List.length_cons, List.cons_append, show i + 1 + r.length = i + (r.length + 1) from by omega]
theorem derI_take {p : List ARat} {i : Nat} {v : ARat} (hv : p[i]? = some v) (h : 1 ≤ i) : derI 1 (((vals p).take (i + 1)).drop 1) = derI 1 (((vals p).take i).drop 1) ++ [((i : Int) : Rat) * v.val] := by
  have h1 := (List.getElem?_eq_some_iff.1 hv).1
  have hm : (vals p)[i]? = some v.val := by unfold vals; rw [List.getElem?_map, hv]; rfl
  have hl : ((vals p).take i).length = i := by unfold vals; simp; omega
  rw [List.take_add_one, hm, List.drop_append_of_le_length (by omega)]
  show derI 1 (((vals p).take i).drop 1 ++ [v.val]) = _
  rw [derI_snoc, List.length_drop, hl, show 1 + (i - 1) = i from by omega]
theorem fl_derI {k : Nat} (hk : k + 2 ≤ 274877906944) : ∀ (q : List Rat) (i : Nat), i + q.length ≤ 18446744073709551615 → Fl k q → Fl 274877906944 (derI i q)
  | [], _, _, _ => fun x hx => by cases hx
  | a :: r, i, hi, h => by
    intro x hx
    rw [List.length_cons] at hi
    rcases List.mem_cons.1 hx with e | hx
    · rw [e]
      have h1 := ht_mul ((i : Int) : Rat) a
      have h2 := h a (List.mem_cons_self ..)
      have h3 : ht ((i : Int) : Rat) ≤ 2 := by
        rw [ht_int]
        have : wl (i : Int) ≤ 2 := wl_le (by omega)
        omega
      omega
    · exact fl_derI hk r (i + 1) (by omega) (fun y hy => h y (List.mem_cons_of_mem _ hy)) x hx
end Go.Proofs.YtcgbmnkgmepikaaGreat.Sym
namespace Go.Proofs.YtcgbmnkgmepikaaGreat.Sym.Path
open Go
set_option maxRecDepth 20000
set_option linter.unusedVariables false
namespace poly_Eval
@[reducible] noncomputable def fn : Func := Tryz.f16
noncomputable def atK1 : List Itm := focus [0, 2, 0, 0, 2, 0, 2, 1, 2, 0, 2, 0, 0, 2, 0, 0] [.code (bodyOf fn)]
def inv1 (p : List ARat) (i_8 : Int) (x site_7 : ARat) : St := ⟨[(0, (.pv (polyPV p))), (3, (.ptr 3 0)), (4, (.ptr 4 0)), (7, (.ptr 7 0)), (8, (eI i_8))], [(3, (.lit [(eB x.neg), (.pv (wordsPV x.num)), (.pv (wordsPV x.den))])), (4, (.lit [(eB false), (.pv (.list [])), (.pv (.list []))])), (7, (.lit [(eB site_7.neg), (.pv (wordsPV site_7.num)), (.pv (wordsPV site_7.den))]))]⟩
@[reducible] noncomputable def Loop1 (p : List ARat) (i_8 : Int) (x site_7 : ARat) (r : PV) : Prop := L prg fn atK1 (inv1 p i_8 x site_7) r
theorem e0 (p : List ARat) (x : ARat) {r : PV} (h1 : Contract prg 61 [(polyPV p)] .nilI) (h2 : InI64 ((p.length : Int) - 1)) (hL : Loop1 p ((p.length : Int) - 1) x (⟨false, [], []⟩ : ARat) r) : Contract prg 16 [(polyPV p), x.pv] r :=
  Contract.ofL Tryz.func16 (by kernel_rfl) (L.go mixed tabOk (n := 108) (ns := [1, 1, 1]) (tr := [.reg [], .reg [.none, (.pv .nilI)], .reg [], .auto, .reg [], .reg [.none, (iI (p.length : Int)), (iI ((p.length : Int) - 1))], .keep [0, 3, 4, 7, 8], .ord [3, 4, 7]]) (cj h1 (cj (o_len ARat.cells p) (cj (bs_sub h2) True.intro))) (by kernel_rfl) hL)
theorem l10 (p : List ARat) (i_8 : Int) (x site_7 mul : ARat) (k : Nat) (v add : ARat) {r : PV} (h1 : 0 ≤ i_8) (h2 : Contract prg 54 [site_7.pv, x.pv] mul.pv) (h3 : i_8 = (k : Int)) (h4 : p[k]? = some v) (h5 : Contract prg 32 [mul.pv, v.pv] add.pv) (h6 : InI64 (i_8 - 1)) (hL : Loop1 p (i_8 - 1) x add r) : Loop1 p i_8 x site_7 r :=
  L.go mixed tabOk (n := 141) (ns := [1, 1, 3, 1, 1]) (tr := [.auto, .reg [], .dec true, dr 8 1 [.none, .none, (.pv mul.pv), .none, .none, (.row k (ARat.cells v)), .none, (.pv add.pv)], .reg [.none, (iI (i_8 - 1))], .keep [0, 3, 4, 7, 8]]) (cj (dle_t h1) (cj h2 (cj (o_at ARat.cells h3 h4) (cj h5 (cj (bs_sub h6) True.intro))))) (by kernel_rfl) hL
theorem l11 (p : List ARat) (i_8 : Int) (x site_7 : ARat) (h1 : i_8 < 0) : Loop1 p i_8 x site_7 (.tup [site_7.pv, .nilI]) :=
  L.done mixed tabOk (n := 141) (ns := [1]) (tr := [.auto, .reg [], .dec false, .reg []]) (cj (dle_f h1) True.intro) (by kernel_rfl)
end poly_Eval
namespace poly_Derive
theorem e0 (p der : List ARat) (h1 : Contract prg 61 [(polyPV p)] .nilI) (h2 : Contract prg 63 [(polyPV p)] (polyPV der)) : Contract prg 18 [(polyPV p)] (.tup [(polyPV der), .nilI]) :=
  Contract.ofL Tryz.func18 (by kernel_rfl) (L.done mixed tabOk (n := 93) (ns := [1, 1]) (tr := [.reg [], .reg [.none, (.pv .nilI)], .reg [], .auto, .reg [.none, (.pv (polyPV der))]]) (cj h1 (cj h2 True.intro)) (by kernel_rfl))
end poly_Derive
namespace poly_Trim
@[reducible] noncomputable def fn : Func := Tryz.f55
noncomputable def atK1 : List Itm := focus [0, 2, 0, 2, 0, 0, 2, 0, 0] [.code (bodyOf fn)]
def inv1 (site_17 l : List ARat) (t_8 : Nat) : St := ⟨[(3, (.row 17 0 site_17.length 3)), (6, (.pv (polyPV l))), (7, (eI (l.length : Int))), (8, (eI (t_8 : Int)))], [(17, (.pure ((site_17 : List ARat).map ARat.cells).flatten))]⟩
@[reducible] noncomputable def Loop1 (site_17 l : List ARat) (t_8 : Nat) (r : PV) : Prop := L prg fn atK1 (inv1 site_17 l t_8) r
noncomputable def atK2 : List Itm := focus [0, 2, 0, 2, 0, 0, 2, 0, 0, 0, 0, 2, 0, 1, 2, 2, 2, 2, 0, 0, 0] [.code (bodyOf fn)]
def inv2 (site_17 : List ARat) : St := ⟨[(3, (.row 17 0 site_17.length 3))], [(17, (.pure ((site_17 : List ARat).map ARat.cells).flatten))]⟩
@[reducible] noncomputable def Loop2 (site_17 : List ARat) (r : PV) : Prop := L prg fn atK2 (inv2 site_17) r
theorem e0 (l : List ARat) {r : PV}  (hL : Loop1 [] l 0 r) : Contract prg 55 [(polyPV l)] r :=
  Contract.ofL Tryz.func55 (by kernel_rfl) (L.go mixed tabOk (n := 87) (ns := [1]) (tr := [.reg [], .reg [.nil], .adopt 3 17 3, .reg [.none, (iI (l.length : Int))], .keep [3, 6, 7, 8]]) (cj (o_len ARat.cells l) True.intro) (by kernel_rfl) hL)
theorem l10 (site_17 l : List ARat) (t_8 : Nat) (v add : ARat) {r : PV} (h1 : t_8 < l.length) (h2 : l[t_8]? = some v) (h3 : Contract prg 32 [v.pv, (⟨false, [], []⟩ : ARat).pv] add.pv) (h4 : ((site_17 ++ [add]) : List ARat).length * 56 ≤ 140737488355328) (h5 : (t_8 + 1) < 9223372036854775808) (hL : Loop1 (site_17 ++ [add]) l (t_8 + 1) r) : Loop1 site_17 l t_8 r :=
  L.go mixed tabOk (n := 126) (ns := [1, 3, 1, 6, 1]) (tr := [.auto, .reg [], .dec true, .reg [(.row t_8 (ARat.cells v))], .reg [.none, .none, .none, (.pv add.pv), .none, (.app ((site_17 ++ [add]) : List ARat).length (((site_17 ++ [add]) : List ARat).map ARat.cells).flatten)], .reg [(iI (((t_8 + 1) : Nat) : Int))], .keep [3, 6, 7, 8], .drop [16, 5]]) (cj (dltN_t h1) (cj (o_at ARat.cells (Eq.refl (((t_8 : Nat) : Int) : Int)) h2) (cj h3 (cj (o_appR sz_ARat (site_17 : List ARat) ([add] : List ARat) 56 (Eq.refl (site_17 : List ARat).length) (Eq.refl ([add] : List ARat).length) h4 rfl) (cj (bs_addN h5) True.intro))))) (by kernel_rfl) hL
theorem l11 (site_17 l : List ARat) (t_8 : Nat) {r : PV} (h1 : l.length ≤ t_8) (hL : Loop2 site_17 r) : Loop1 site_17 l t_8 r :=
  L.go mixed tabOk (n := 123) (ns := [1]) (tr := [.auto, .reg [], .dec false, .keep [3]]) (cj (dltN_f h1) True.intro) (by kernel_rfl) hL
theorem l20 (site_17 : List ARat) (k : Nat) (v : ARat) (sig : Int) (u : Nat) {r : PV} (h1 : 0 < site_17.length) (h2 : InI64 ((site_17.length : Int) - 1)) (h3 : ((site_17.length : Int) - 1) = (k : Int)) (h4 : k < site_17.length) (h5 : site_17[k]? = some v) (h6 : Contract prg 39 [v.pv] (vI sig)) (h7 : sig = 0) (h8 : ((site_17.length : Int) - 1) = (u : Int)) (h9 : u ≤ (site_17 : List ARat).length) (hL : Loop2 (site_17.take u) r) : Loop2 site_17 r :=
  L.go mixed tabOk (n := 150) (ns := [1, 1, 1, 1, 1, 1, 2, 1, 2, 1, 1, 1, 1, 1, 1, 5, 1]) (tr := [.auto, .reg [.none, .none, .none, .none, .none, .none, .none, (iI ((site_17.length : Int) - 1)), (.nat k), (.seg [(vB v.neg), (wordsPV v.num), (wordsPV v.den)]), (.pv (vI sig)), .none, (.dec true)], .dec true, .reg [.none, .none, .none, (iI ((site_17.length : Int) - 1)), (.slc 0 ((site_17.take u).length) [])], .cut 17 (u * 3) (((site_17.take u) : List ARat).map ARat.cells).flatten, .keep [3]]) (cj (dltN_t h1) (cj (dltN_t h1) (cj (dltN_t h1) (cj (dltN_t h1) (cj (bs_sub h2) (cj (dltN_t h1) (cj (cj h3 h4) (cj (dltN_t h1) (cj (o_seg sz_ARat h5) (cj (dltN_t h1) (cj h6 (cj (dltN_t h1) (cj (dltN_t h1) (cj (deq_t h7) (cj (bs_sub h2) (cj (o_sr0 (site_17 : List ARat) h8 h9) (cj (o_cut sz_ARat (site_17 : List ARat) u) True.intro))))))))))))))))) (by kernel_rfl) hL
theorem l21 (site_17 : List ARat) (k : Nat) (v : ARat) (sig : Int) (h1 : 0 < site_17.length) (h2 : InI64 ((site_17.length : Int) - 1)) (h3 : ((site_17.length : Int) - 1) = (k : Int)) (h4 : k < site_17.length) (h5 : site_17[k]? = some v) (h6 : Contract prg 39 [v.pv] (vI sig)) (h7 : sig ≠ 0) : Loop2 site_17 (polyPV site_17) :=
  L.done mixed tabOk (n := 156) (ns := [1, 1, 1, 1, 1, 1, 2, 1, 2, 1, 1, 1, 1, 1, 3]) (tr := [.auto, .reg [.none, .none, .none, .none, .none, .none, .none, (iI ((site_17.length : Int) - 1)), (.nat k), (.seg [(vB v.neg), (wordsPV v.num), (wordsPV v.den)]), (.pv (vI sig)), .none, (.dec true)], .dec false, .reg [], .frzT 2 ((site_17 : List ARat).map ARat.cells)]) (cj (dltN_t h1) (cj (dltN_t h1) (cj (dltN_t h1) (cj (dltN_t h1) (cj (bs_sub h2) (cj (dltN_t h1) (cj (cj h3 h4) (cj (dltN_t h1) (cj (o_seg sz_ARat h5) (cj (dltN_t h1) (cj h6 (cj (dltN_t h1) (cj (dltN_t h1) (cj (deq_f h7) (cj (o_frz sz_ARat (site_17 : List ARat) (Eq.refl (site_17 : List ARat).length)) True.intro))))))))))))))) (by kernel_rfl)
theorem l22 (site_17 : List ARat) (h1 : site_17.length ≤ 0) : Loop2 site_17 (polyPV site_17) :=
  L.done mixed tabOk (n := 156) (ns := [1, 1, 1, 1, 1, 1, 1, 1, 1, 3]) (tr := [.auto, .reg [.none, .none, .none, .none, .skip, .skip, .skip, .skip, .skip, .skip, .skip, .skip, (.dec false)], .auto, .reg [], .frzT 2 ((site_17 : List ARat).map ARat.cells)]) (cj (dltN_f h1) (cj (dltN_f h1) (cj (dltN_f h1) (cj (dltN_f h1) (cj (dltN_f h1) (cj (dltN_f h1) (cj (dltN_f h1) (cj (dltN_f h1) (cj (dltN_f h1) (cj (o_frz sz_ARat (site_17 : List ARat) (Eq.refl (site_17 : List ARat).length)) True.intro)))))))))) (by kernel_rfl)
end poly_Trim
namespace poly_Check
@[reducible] noncomputable def fn : Func := Tryz.f61
noncomputable def atK1 : List Itm := focus [0, 2, 0, 0, 2, 1, 2, 0, 0, 2, 0, 0] [.code (bodyOf fn)]
def inv1 (p : List ARat) (t_11 : Nat) : St := ⟨[(0, (.pv (polyPV p))), (9, (.pv (polyPV p))), (10, (eI (p.length : Int))), (11, (eI (t_11 : Int)))], []⟩
@[reducible] noncomputable def Loop1 (p : List ARat) (t_11 : Nat) (r : PV) : Prop := L prg fn atK1 (inv1 p t_11) r
theorem e0 (p : List ARat) (h1 : 65 < p.length) : Contract prg 61 [(polyPV p)] (.iface 57 (vI 4)) :=
  Contract.ofL Tryz.func61 (by kernel_rfl) (L.done mixed tabOk (n := 84) (ns := [1, 1]) (tr := [.reg [], .reg [.none, (iI (p.length : Int))], .dec true, .reg []]) (cj (o_len ARat.cells p) (cj (dltN_t h1) True.intro)) (by kernel_rfl))
theorem e1 (p : List ARat) {r : PV} (h1 : p.length ≤ 65) (hL : Loop1 p 0 r) : Contract prg 61 [(polyPV p)] r :=
  Contract.ofL Tryz.func61 (by kernel_rfl) (L.go mixed tabOk (n := 96) (ns := [1, 1, 1]) (tr := [.reg [], .reg [.none, (iI (p.length : Int))], .dec false, .reg [.none, (iI (p.length : Int))], .keep [0, 9, 10, 11]]) (cj (o_len ARat.cells p) (cj (dltN_f h1) (cj (o_len ARat.cells p) True.intro))) (by kernel_rfl) hL)
theorem l10 (p : List ARat) (t_11 : Nat) (v : ARat) (val : Bool) (h1 : t_11 < p.length) (h2 : p[t_11]? = some v) (h3 : Contract prg 50 [v.pv] (vB val)) (h4 : val = false) : Loop1 p t_11 (.iface 57 (vI 2)) :=
  L.done mixed tabOk (n := 141) (ns := [1, 3, 1, 1]) (tr := [.auto, .reg [], .dec true, .reg [(.row t_11 (ARat.cells v))], .reg [.none, (.pv (vB val))], .dec true, .reg []]) (cj (dltN_t h1) (cj (o_at ARat.cells (Eq.refl (((t_11 : Nat) : Int) : Int)) h2) (cj h3 (cj (bnot_t h4) True.intro)))) (by kernel_rfl)
theorem l11 (p : List ARat) (t_11 : Nat) (v : ARat) (val : Bool) {r : PV} (h1 : t_11 < p.length) (h2 : p[t_11]? = some v) (h3 : Contract prg 50 [v.pv] (vB val)) (h4 : val = true) (h5 : (t_11 + 1) < 9223372036854775808) (hL : Loop1 p (t_11 + 1) r) : Loop1 p t_11 r :=
  L.go mixed tabOk (n := 144) (ns := [1, 3, 1, 1, 1]) (tr := [.auto, .reg [], .dec true, .reg [(.row t_11 (ARat.cells v))], .reg [.none, (.pv (vB val))], .dec false, .reg [(iI (((t_11 + 1) : Nat) : Int))], .keep [0, 9, 10, 11], .drop [4]]) (cj (dltN_t h1) (cj (o_at ARat.cells (Eq.refl (((t_11 : Nat) : Int) : Int)) h2) (cj h3 (cj (bnot_f h4) (cj (bs_addN h5) True.intro))))) (by kernel_rfl) hL
theorem l12 (p : List ARat) (t_11 k : Nat) (v : ARat) (sig : Int) (h1 : p.length ≤ t_11) (h2 : 0 < p.length) (h3 : InI64 ((p.length : Int) - 1)) (h4 : ((p.length : Int) - 1) = (k : Int)) (h5 : p[k]? = some v) (h6 : Contract prg 39 [v.pv] (vI sig)) (h7 : sig = 0) : Loop1 p t_11 (.iface 57 (vI 8)) :=
  L.done mixed tabOk (n := 141) (ns := [1, 1, 1, 1, 1, 1, 1, 1, 1, 3, 1, 1, 1, 1, 1, 1]) (tr := [.auto, .reg [], .dec false, .reg [.none, (iI (p.length : Int)), .none, .none, .none, .none, (iI (p.length : Int)), (iI ((p.length : Int) - 1)), (.row k (ARat.cells v)), .none, (.pv (vI sig)), .none, (.dec true)], .dec true, .reg []]) (cj (dltN_f h1) (cj (o_len ARat.cells p) (cj (dltN_t h2) (cj (dltN_t h2) (cj (dltN_t h2) (cj (o_len ARat.cells p) (cj (dltN_t h2) (cj (bs_sub h3) (cj (dltN_t h2) (cj (o_at ARat.cells h4 h5) (cj (dltN_t h2) (cj (dltN_t h2) (cj h6 (cj (dltN_t h2) (cj (dltN_t h2) (cj (deq_t h7) True.intro)))))))))))))))) (by kernel_rfl)
theorem l13 (p : List ARat) (t_11 k : Nat) (v : ARat) (sig : Int) (h1 : p.length ≤ t_11) (h2 : 0 < p.length) (h3 : InI64 ((p.length : Int) - 1)) (h4 : ((p.length : Int) - 1) = (k : Int)) (h5 : p[k]? = some v) (h6 : Contract prg 39 [v.pv] (vI sig)) (h7 : sig ≠ 0) : Loop1 p t_11 .nilI :=
  L.done mixed tabOk (n := 144) (ns := [1, 1, 1, 1, 1, 1, 1, 1, 1, 3, 1, 1, 1, 1, 1, 1]) (tr := [.auto, .reg [], .dec false, .reg [.none, (iI (p.length : Int)), .none, .none, .none, .none, (iI (p.length : Int)), (iI ((p.length : Int) - 1)), (.row k (ARat.cells v)), .none, (.pv (vI sig)), .none, (.dec true)], .dec false, .reg []]) (cj (dltN_f h1) (cj (o_len ARat.cells p) (cj (dltN_t h2) (cj (dltN_t h2) (cj (dltN_t h2) (cj (o_len ARat.cells p) (cj (dltN_t h2) (cj (bs_sub h3) (cj (dltN_t h2) (cj (o_at ARat.cells h4 h5) (cj (dltN_t h2) (cj (dltN_t h2) (cj h6 (cj (dltN_t h2) (cj (dltN_t h2) (cj (deq_f h7) True.intro)))))))))))))))) (by kernel_rfl)
theorem l14 (p : List ARat) (t_11 : Nat) (h1 : p.length ≤ t_11) (h2 : p.length ≤ 0) : Loop1 p t_11 .nilI :=
  L.done mixed tabOk (n := 144) (ns := [1, 1, 1, 1, 1, 1, 1, 1, 1, 1, 1]) (tr := [.auto, .reg [], .dec false, .reg [.none, (iI (p.length : Int)), .none, .none, .skip, .skip, .skip, .skip, .skip, .skip, .skip, .skip, (.dec false)], .auto, .reg []]) (cj (dltN_f h1) (cj (o_len ARat.cells p) (cj (dltN_f h2) (cj (dltN_f h2) (cj (dltN_f h2) (cj (dltN_f h2) (cj (dltN_f h2) (cj (dltN_f h2) (cj (dltN_f h2) (cj (dltN_f h2) (cj (dltN_f h2) True.intro))))))))))) (by kernel_rfl)
end poly_Check
namespace poly_derive
@[reducible] noncomputable def fn : Func := Tryz.f63
noncomputable def atK1 : List Itm := focus [0, 2, 0, 2, 0, 0, 2, 0, 0] [.code (bodyOf fn)]
def inv1 (p site_20 : List ARat) (i_4 : Nat) : St := ⟨[(0, (.pv (polyPV p))), (3, (.row 20 0 site_20.length 3)), (4, (eI (i_4 : Int)))], [(20, (.pure ((site_20 : List ARat).map ARat.cells).flatten))]⟩
@[reducible] noncomputable def Loop1 (p site_20 : List ARat) (i_4 : Nat) (r : PV) : Prop := L prg fn atK1 (inv1 p site_20 i_4) r
theorem e0 (p : List ARat) {r : PV}  (hL : Loop1 p [] 1 r) : Contract prg 63 [(polyPV p)] r :=
  Contract.ofL Tryz.func63 (by kernel_rfl) (L.go mixed tabOk (n := 87) (ns := []) (tr := [.reg [], .reg [.nil], .adopt 3 20 3, .reg [], .keep [0, 3, 4]]) True.intro (by kernel_rfl) hL)
theorem l10 (p site_20 : List ARat) (i_4 : Nat) (of v mul : ARat) {r : PV} (h1 : i_4 < p.length) (h2 : Contract prg 33 [(vI (i_4 : Int))] of.pv) (h3 : p[i_4]? = some v) (h4 : Contract prg 54 [of.pv, v.pv] mul.pv) (h5 : ((site_20 ++ [mul]) : List ARat).length * 56 ≤ 140737488355328) (h6 : (i_4 + 1) < 9223372036854775808) (hL : Loop1 p (site_20 ++ [mul]) (i_4 + 1) r) : Loop1 p site_20 i_4 r :=
  L.go mixed tabOk (n := 120) (ns := [1, 1, 1, 3, 1, 6, 1]) (tr := [.auto, .reg [.none, .none, (iI (p.length : Int))], .dec true, dr 9 2 [.none, .none, (.pv of.pv), .none, .none, (.row i_4 (ARat.cells v)), .none, (.pv mul.pv), .none, (.app ((site_20 ++ [mul]) : List ARat).length (((site_20 ++ [mul]) : List ARat).map ARat.cells).flatten)], .reg [.none, (iI (((i_4 + 1) : Nat) : Int))], .keep [0, 3, 4], .drop [19]]) (cj (o_len ARat.cells p) (cj (dltN_t h1) (cj h2 (cj (o_at ARat.cells (Eq.refl (((i_4 : Nat) : Int) : Int)) h3) (cj h4 (cj (o_appR sz_ARat (site_20 : List ARat) ([mul] : List ARat) 56 (Eq.refl (site_20 : List ARat).length) (Eq.refl ([mul] : List ARat).length) h5 rfl) (cj (bs_addN h6) True.intro))))))) (by kernel_rfl) hL
theorem l11 (p site_20 : List ARat) (i_4 : Nat) (tri : List ARat) (h1 : p.length ≤ i_4) (h2 : Contract prg 55 [(polyPV site_20)] (polyPV tri)) : Loop1 p site_20 i_4 (polyPV tri) :=
  L.done mixed tabOk (n := 120) (ns := [1, 1, 3, 1]) (tr := [.auto, .reg [.none, .none, (iI (p.length : Int))], .dec false, .frzT 3 ((site_20 : List ARat).map ARat.cells), .reg [.none, (.pv (polyPV tri))]]) (cj (o_len ARat.cells p) (cj (dltN_f h1) (cj (o_frz sz_ARat (site_20 : List ARat) (Eq.refl (site_20 : List ARat).length)) (cj h2 True.intro)))) (by kernel_rfl)
end poly_derive
namespace poly_Degree
theorem e0 (p : List ARat) (h1 : InI64 ((p.length : Int) - 1)) : Contract prg 70 [(polyPV p)] (vI ((p.length : Int) - 1)) :=
  Contract.ofL Tryz.func70 (by kernel_rfl) (L.done mixed tabOk (n := 72) (ns := [1, 1]) (tr := [.reg [], .reg [.none, (iI (p.length : Int)), (iI ((p.length : Int) - 1))]]) (cj (o_len ARat.cells p) (cj (bs_sub h1) True.intro)) (by kernel_rfl))
end poly_Degree
namespace poly_Over
@[reducible] noncomputable def fn : Func := Tryz.f84
noncomputable def atK1 : List Itm := focus [0, 2, 0, 0, 2, 0, 2, 1, 2, 0, 2, 0, 0, 2, 0, 0] [.code (bodyOf fn)]
def inv1 (p : List ARat) (i_8 : Int) (rV site_7 : ARange) : St := ⟨[(0, (.pv (polyPV p))), (3, (.ptr 3 0)), (4, (.ptr 4 0)), (7, (.ptr 7 0)), (8, (eI i_8))], [(3, (.lit [(eB rV.lo.neg), (.pv (wordsPV rV.lo.num)), (.pv (wordsPV rV.lo.den)), (eB rV.hi.neg), (.pv (wordsPV rV.hi.num)), (.pv (wordsPV rV.hi.den))])), (4, (.lit [(eB false), (.pv (.list [])), (.pv (.list [])), (eB false), (.pv (.list [])), (.pv (.list []))])), (7, (.lit [(eB site_7.lo.neg), (.pv (wordsPV site_7.lo.num)), (.pv (wordsPV site_7.lo.den)), (eB site_7.hi.neg), (.pv (wordsPV site_7.hi.num)), (.pv (wordsPV site_7.hi.den))]))]⟩
@[reducible] noncomputable def Loop1 (p : List ARat) (i_8 : Int) (rV site_7 : ARange) (r : PV) : Prop := L prg fn atK1 (inv1 p i_8 rV site_7) r
theorem e0 (p : List ARat) (rV : ARange) {r : PV} (h1 : Contract prg 61 [(polyPV p)] .nilI) (h2 : InI64 ((p.length : Int) - 1)) (hL : Loop1 p ((p.length : Int) - 1) rV (⟨(⟨false, [], []⟩ : ARat), (⟨false, [], []⟩ : ARat)⟩ : ARange) r) : Contract prg 84 [(polyPV p), rV.pv] r :=
  Contract.ofL Tryz.func84 (by kernel_rfl) (L.go mixed tabOk (n := 108) (ns := [1, 1, 1]) (tr := [.reg [], .reg [.none, (.pv .nilI)], .reg [], .auto, .reg [], .reg [.none, (iI (p.length : Int)), (iI ((p.length : Int) - 1))], .keep [0, 3, 4, 7, 8], .ord [3, 4, 7]]) (cj h1 (cj (o_len ARat.cells p) (cj (bs_sub h2) True.intro))) (by kernel_rfl) hL)
theorem l10 (p : List ARat) (i_8 : Int) (rV site_7 : ARange) (k : Nat) (v : ARat) (poi : ARange) {r : PV} (h1 : 0 ≤ i_8) (h2 : InI64 ((p.length : Int) - 1)) (h3 : i_8 = ((p.length : Int) - 1)) (h4 : i_8 = (k : Int)) (h5 : p[k]? = some v) (h6 : Contract prg 132 [v.pv] poi.pv) (h7 : InI64 (i_8 - 1)) (hL : Loop1 p (i_8 - 1) rV poi r) : Loop1 p i_8 rV site_7 r :=
  L.go mixed tabOk (n := 162) (ns := [1, 1, 1, 1, 3, 1, 1]) (tr := [.auto, .reg [], .dec true, .reg [.none, .none, (iI (p.length : Int)), (iI ((p.length : Int) - 1))], .dec true, .reg [.none, .none, (.row k (ARat.cells v)), .none, (.pv poi.pv)], .reg [.none, (iI (i_8 - 1))], .keep [0, 3, 4, 7, 8]]) (cj (dle_t h1) (cj (o_len ARat.cells p) (cj (bs_sub h2) (cj (deq_t h3) (cj (o_at ARat.cells h4 h5) (cj h6 (cj (bs_sub h7) True.intro))))))) (by kernel_rfl) hL
theorem l11 (p : List ARat) (i_8 : Int) (rV site_7 mul : ARange) (k : Nat) (v : ARat) (poi add : ARange) {r : PV} (h1 : 0 ≤ i_8) (h2 : InI64 ((p.length : Int) - 1)) (h3 : i_8 ≠ ((p.length : Int) - 1)) (h4 : Contract prg 134 [site_7.pv, rV.pv] mul.pv) (h5 : i_8 = (k : Int)) (h6 : p[k]? = some v) (h7 : Contract prg 132 [v.pv] poi.pv) (h8 : Contract prg 133 [mul.pv, poi.pv] add.pv) (h9 : InI64 (i_8 - 1)) (hL : Loop1 p (i_8 - 1) rV add r) : Loop1 p i_8 rV site_7 r :=
  L.go mixed tabOk (n := 156) (ns := [1, 1, 1, 1, 1, 3, 1, 1, 1]) (tr := [.auto, .reg [], .dec true, .reg [.none, .none, (iI (p.length : Int)), (iI ((p.length : Int) - 1))], .dec false, dr 9 1 [.none, .none, (.pv mul.pv), .none, .none, (.row k (ARat.cells v)), .none, (.pv poi.pv), (.pv add.pv)], .reg [.none, (iI (i_8 - 1))], .keep [0, 3, 4, 7, 8]]) (cj (dle_t h1) (cj (o_len ARat.cells p) (cj (bs_sub h2) (cj (deq_f h3) (cj h4 (cj (o_at ARat.cells h5 h6) (cj h7 (cj h8 (cj (bs_sub h9) True.intro))))))))) (by kernel_rfl) hL
theorem l12 (p : List ARat) (i_8 : Int) (rV site_7 : ARange) (h1 : i_8 < 0) : Loop1 p i_8 rV site_7 (.tup [site_7.pv, .nilI]) :=
  L.done mixed tabOk (n := 141) (ns := [1]) (tr := [.auto, .reg [], .dec false, .reg []]) (cj (dle_f h1) True.intro) (by kernel_rfl)
end poly_Over
end Go.Proofs.YtcgbmnkgmepikaaGreat.Sym.Path
namespace Go.Proofs.YtcgbmnkgmepikaaGreat.Sym
open Go Path CInt
set_option linter.unusedVariables false
namespace CPo
theorem addZ (a : ARat) (h : FitR a) : Contract prg 32 [a.pv, (⟨false, [], []⟩ : ARat).pv] (mkR a.val).pv := by
  have hf := CFr.Add a ⟨false, [], []⟩ h ⟨by simp, by simp⟩
  rwa [val_nil (a := ⟨false, [], []⟩) rfl, Rat.add_zero] at hf
theorem Trim2 : ∀ (n : Nat) (q : List Rat), q.length = n → n < 4611686018427387904 → Fl 274877906944 q → poly_Trim.Loop2 (q.map mkR) (polyPV ((trimL q).map mkR)) := by
  intro n
  induction n with
  | zero =>
    intro q hq _ _
    have : q = [] := List.eq_nil_of_length_eq_zero hq
    subst this
    exact poly_Trim.l22 [] (by simp)
  | succ n ih =>
    intro q hq hb hf
    obtain ⟨v, hv⟩ : ∃ v, q[n]? = some v := ⟨_, List.getElem?_eq_getElem (by omega)⟩
    have hs := snoc_of hv hq
    have hm : (q.map mkR)[n]? = some (mkR v) := by rw [List.getElem?_map, hv]; rfl
    have hv1 := hf v (List.mem_of_getElem? hv)
    have sg := CFr.Sign (mkR v) (fit_mkR hv1)
    rw [mkR_val] at sg
    have hl : (q.map mkR).length = n + 1 := by rw [List.length_map]; exact hq
    by_cases h0 : v = 0
    · refine poly_Trim.l20 (q.map mkR) n (mkR v) _ n (by omega) (by unfold InI64; omega) (by omega) (by omega) hm sg (cmpR_eq.2 h0) (by omega) (by omega) ?_
      have := ih (q.take n) (by rw [List.length_take]; omega) (by omega) (fun x hx => hf x (List.mem_of_mem_take hx))
      rw [List.map_take] at this
      rw [hs, h0, trimL_zero]
      rw [← hs.symm, ← h0, ← hs] at *
      exact this
    · rw [hs, trimL_ne h0, ← hs]
      exact poly_Trim.l21 (q.map mkR) n (mkR v) _ (by omega) (by unfold InI64; omega) (by omega) (by omega) hm sg (fun e => h0 (cmpR_eq.1 e))
theorem Trim (l : List ARat) (hl : l.length ≤ 1099511627776) (hf : FitP 274877906944 l) : Contract prg 55 [polyPV l] (polyPV ((trimL (vals l)).map mkR)) := by
  have loop : ∀ (j t : Nat) (site : List ARat), l.length - t = j → t ≤ l.length → site = (l.take t).map (fun a => mkR a.val) → poly_Trim.Loop1 site l t (polyPV ((trimL (vals l)).map mkR)) := by
    intro j
    induction j with
    | zero =>
      intro t site hj ht hs
      have hte : t = l.length := by omega
      subst hte
      refine poly_Trim.l11 site l _ (Nat.le_refl _) ?_
      rw [List.take_of_length_le (Nat.le_refl _)] at hs
      have := Trim2 (vals l).length (vals l) rfl (by unfold vals; rw [List.length_map]; omega) (fl_vals hf (by omega))
      have e : site = (vals l).map mkR := by rw [hs]; unfold vals; rw [List.map_map]; rfl
      rw [e]; exact this
    | succ j ih =>
      intro t site hj ht hs
      obtain ⟨v, hv⟩ : ∃ v, l[t]? = some v := ⟨_, List.getElem?_eq_getElem (by omega)⟩
      have ha := addZ v (hf v (List.mem_of_getElem? hv))
      have hsl : site.length = t := by rw [hs, List.length_map, List.length_take]; omega
      refine poly_Trim.l10 site l t v _ (by omega) hv ha (by simp; omega) (by omega) (ih (t + 1) _ (by omega) (by omega) ?_)
      rw [hs, List.take_add_one, hv]; simp
  exact poly_Trim.e0 l (loop _ 0 [] rfl (by omega) rfl)
theorem Check1 : ∀ (j : Nat) (p : List ARat) (t : Nat), p.length - t = j → t ≤ p.length → p.length ≤ 65 → FitP 274877906944 p → (p.take t).all ARat.valid = true →
    (p.all ARat.valid = false → poly_Check.Loop1 p t (.iface 57 (vI 2))) ∧ (p.all ARat.valid = true → lastZ (vals p) = true → poly_Check.Loop1 p t (.iface 57 (vI 8))) ∧ (p.all ARat.valid = true → lastZ (vals p) = false → poly_Check.Loop1 p t .nilI) := by
  intro j
  induction j with
  | zero =>
    intro p t hj ht hl hf hv
    have hte : t = p.length := by omega
    subst hte
    rw [List.take_of_length_le (Nat.le_refl _)] at hv
    refine ⟨fun h => ?_, fun _ hz => ?_, fun _ hz => ?_⟩
    · rw [hv] at h; cases h
    · obtain ⟨v, h0, h1, h2⟩ := lastZ_true hz
      have sg := CFr.Sign v (hf v (List.mem_of_getElem? h1))
      exact poly_Check.l12 p _ (p.length - 1) v _ (Nat.le_refl _) h0 (by unfold InI64; omega) (by omega) h1 sg (cmpR_eq.2 h2)
    · by_cases h0 : p.length = 0
      · exact poly_Check.l14 p _ (Nat.le_refl _) (by omega)
      · obtain ⟨v, h1, h2⟩ := lastZ_false hz h0
        have sg := CFr.Sign v (hf v (List.mem_of_getElem? h1))
        exact poly_Check.l13 p _ (p.length - 1) v _ (Nat.le_refl _) (by omega) (by unfold InI64; omega) (by omega) h1 sg (fun e => h2 (cmpR_eq.1 e))
  | succ j ih =>
    intro p t hj ht hl hf hv
    obtain ⟨v, h1⟩ : ∃ v, p[t]? = some v := ⟨_, List.getElem?_eq_getElem (by omega)⟩
    have hva := CFr.Valid v (hf v (List.mem_of_getElem? h1))
    cases hc : v.valid with
    | false =>
      have hall : p.all ARat.valid = false := by
        rw [List.all_eq_false]
        exact ⟨v, List.mem_of_getElem? h1, by rw [hc]; simp⟩
      refine ⟨fun _ => poly_Check.l10 p t v _ (by omega) h1 hva hc, fun h => ?_, fun h => ?_⟩
      · rw [hall] at h; cases h
      · rw [hall] at h; cases h
    | true =>
      obtain ⟨g1, g2, g3⟩ := ih p (t + 1) (by omega) (by omega) hl hf (by rw [List.take_add_one, h1]; simp [hv, hc])
      exact ⟨fun h => poly_Check.l11 p t v _ (by omega) h1 hva hc (by omega) (g1 h), fun h h' => poly_Check.l11 p t v _ (by omega) h1 hva hc (by omega) (g2 h h'), fun h h' => poly_Check.l11 p t v _ (by omega) h1 hva hc (by omega) (g3 h h')⟩
theorem Check (p : List ARat) (hf : FitP 274877906944 p) : Contract prg 61 [polyPV p] (errPV (errOf (chk p))) := by
  unfold chk
  by_cases hl : p.length ≤ 65
  · rw [if_neg (by omega)]
    obtain ⟨g1, g2, g3⟩ := Check1 _ p 0 rfl (by omega) hl hf (by simp)
    cases hv : p.all ARat.valid with
    | false => exact poly_Check.e1 p hl (g1 hv)
    | true =>
      cases hz : lastZ (vals p) with
      | true => exact poly_Check.e1 p hl (g2 hv hz)
      | false => exact poly_Check.e1 p hl (g3 hv hz)
  · rw [if_pos (by omega)]
    exact poly_Check.e0 p (by omega)
theorem Eval1 (p : List ARat) (x : ARat) (hl : p.length ≤ 65) (hp : FitP 1073741824 p) (hx : x.num.length ≤ 1073741824 ∧ x.den.length ≤ 1073741824) : ∀ (n : Nat) (q : Rat), n ≤ p.length → q = evalL ((vals p).drop n) x.val →
    poly_Eval.Loop1 p ((n : Int) - 1) x (mkR q) (.tup [(mkR (evalL (vals p) x.val)).pv, .nilI]) := by
  intro n
  induction n with
  | zero =>
    intro q _ hq
    rw [List.drop_zero] at hq
    rw [← hq]
    exact poly_Eval.l11 p _ x _ (by omega)
  | succ n ih =>
    intro q hn hq
    obtain ⟨v, hv⟩ : ∃ v, p[n]? = some v := ⟨_, List.getElem?_eq_getElem (by omega)⟩
    have hvf := hp v (List.mem_of_getElem? hv)
    have b1 := ht_fit hvf.1 hvf.2 (by omega)
    have b2 := ht_fit hx.1 hx.2 (by omega)
    have b3 : ht q ≤ 65 * 2147483649 + 1 := by
      rw [hq]
      refine Nat.le_trans (ht_eval _ x.val 1073741824 (fun y hy => fl_vals hp (by omega) y (List.mem_of_mem_drop hy)) b2) ?_
      have : ((vals p).drop (n + 1)).length ≤ 65 := by unfold vals; simp; omega
      omega
    have m := CFr.Mul (mkR q) x (fit_mkR (by omega)) ⟨by omega, by omega⟩
    rw [mkR_val] at m
    have b4 := ht_mul q x.val
    have s := CFr.Add (mkR (q * x.val)) v (fit_mkR (by omega)) ⟨by omega, by omega⟩
    rw [mkR_val] at s
    have := ih (q * x.val + v.val) (by omega) (by rw [hq, vals_drop hv]; rfl)
    rw [show ((n + 1 : Nat) : Int) - 1 = (n : Int) from by omega]
    exact poly_Eval.l10 p (n : Int) x _ _ n v _ (by omega) m rfl hv s (by unfold InI64; omega) this
theorem Eval (p : List ARat) (x : ARat) (hc : chk p = 0) (hp : FitP 1073741824 p) (hx : x.num.length ≤ 1073741824 ∧ x.den.length ≤ 1073741824) : Contract prg 16 [polyPV p, x.pv] (.tup [(mkR (evalL (vals p) x.val)).pv, .nilI]) := by
  have hk := Check p (fun a ha => ⟨by have := (hp a ha).1; omega, by have := (hp a ha).2; omega⟩)
  rw [hc] at hk
  have hl := chk_len hc
  exact poly_Eval.e0 p x hk (by unfold InI64; omega) (Eval1 p x hl hp hx p.length 0 (Nat.le_refl _) (by rw [List.drop_of_length_le (by unfold vals; simp)]; rfl))
theorem derive (p : List ARat) (hl : p.length ≤ 65) (hp : FitP 137438953472 p) : Contract prg 63 [polyPV p] (polyPV ((deriveL (vals p)).map mkR)) := by
  have loop : ∀ (j i : Nat) (site : List ARat), p.length - i = j → 1 ≤ i → site = (derI 1 (((vals p).take i).drop 1)).map mkR → poly_derive.Loop1 p site i (polyPV ((deriveL (vals p)).map mkR)) := by
    intro j
    induction j with
    | zero =>
      intro i site hj h1 hs
      rw [List.take_of_length_le (by unfold vals; rw [List.length_map]; omega)] at hs
      have hfit : Fl 274877906944 (derI 1 ((vals p).drop 1)) := fl_derI (k := 137438953472) (by omega) _ 1 (by unfold vals; simp; omega) (fun y hy => fl_vals hp (by omega) y (List.mem_of_mem_drop hy))
      have ht := Trim site (by rw [hs, List.length_map, derI_len]; unfold vals; simp; omega) (by rw [hs]; exact fit_map hfit)
      rw [hs, vals_mkR] at ht
      rw [hs]
      exact poly_derive.l11 p _ i _ (by omega) ht
    | succ j ih =>
      intro i site hj h1 hs
      obtain ⟨v, hv⟩ : ∃ v, p[i]? = some v := ⟨_, List.getElem?_eq_getElem (by omega)⟩
      have hvf := hp v (List.mem_of_getElem? hv)
      have ho := CFr.Of (i : Int) (by unfold InI64; omega)
      have b1 : ht ((i : Int) : Rat) ≤ 2 := by
        rw [ht_int]
        have : wl (i : Int) ≤ 2 := wl_le (by omega)
        omega
      have m := CFr.Mul (mkR ((i : Int) : Rat)) v (fit_mkR (by omega)) ⟨by omega, by omega⟩
      rw [mkR_val] at m
      have hsl : site.length = i - 1 := by rw [hs, List.length_map, derI_len]; unfold vals; simp; omega
      refine poly_derive.l10 p site i _ v _ (by omega) ho hv m (by simp; omega) (by omega) (ih (i + 1) _ (by omega) (by omega) ?_)
      rw [hs, derI_take hv h1]
      simp
  exact poly_derive.e0 p (loop _ 1 [] rfl (by omega) (by rw [show (((vals p).take 1).drop 1) = [] from by simp]; rfl))
theorem Derive (p : List ARat) (hc : chk p = 0) (hp : FitP 137438953472 p) : Contract prg 18 [polyPV p] (.tup [polyPV ((deriveL (vals p)).map mkR), .nilI]) := by
  have hk := Check p (fun a ha => ⟨by have := (hp a ha).1; omega, by have := (hp a ha).2; omega⟩)
  rw [hc] at hk
  exact poly_Derive.e0 p _ hk (derive p (chk_len hc) hp)
end CPo
end Go.Proofs.YtcgbmnkgmepikaaGreat.Sym
namespace Go.Proofs.YtcgbmnkgmepikaaGreat.Sym.Path
open Go
set_option maxRecDepth 20000
set_option linter.unusedVariables false
namespace linkworkref05_Check
@[reducible] noncomputable def fn : Func := Tryz.f69
noncomputable def atK1 : List Itm := focus [0, 2, 0, 0, 2, 1, 2, 0, 0, 2, 0, 0] [.code (bodyOf fn)]
def inv1 (p : List ARat) (t_10 : Nat) : St := ⟨[(0, (.pv (polyPV p))), (8, (.pv (polyPV p))), (9, (eI (p.length : Int))), (10, (eI (t_10 : Int)))], []⟩
@[reducible] noncomputable def Loop1 (p : List ARat) (t_10 : Nat) (r : PV) : Prop := L prg fn atK1 (inv1 p t_10) r
theorem e0 (p : List ARat) (h1 : 65 < p.length) : Contract prg 69 [(polyPV p)] (vI 4) :=
  Contract.ofL Tryz.func69 (by kernel_rfl) (L.done mixed tabOk (n := 84) (ns := [1, 1]) (tr := [.reg [], .reg [.none, (iI (p.length : Int))], .dec true, .reg []]) (cj (o_len ARat.cells p) (cj (dltN_t h1) True.intro)) (by kernel_rfl))
theorem e1 (p : List ARat) {r : PV} (h1 : p.length ≤ 65) (hL : Loop1 p 0 r) : Contract prg 69 [(polyPV p)] r :=
  Contract.ofL Tryz.func69 (by kernel_rfl) (L.go mixed tabOk (n := 96) (ns := [1, 1, 1]) (tr := [.reg [], .reg [.none, (iI (p.length : Int))], .dec false, .reg [.none, (iI (p.length : Int))], .keep [0, 8, 9, 10]]) (cj (o_len ARat.cells p) (cj (dltN_f h1) (cj (o_len ARat.cells p) True.intro))) (by kernel_rfl) hL)
theorem l10 (p : List ARat) (t_10 : Nat) (v : ARat) (val : Bool) (h1 : t_10 < p.length) (h2 : p[t_10]? = some v) (h3 : Contract prg 28 [v.pv] (vB val)) (h4 : val = false) : Loop1 p t_10 (vI 2) :=
  L.done mixed tabOk (n := 141) (ns := [1, 3, 1, 1]) (tr := [.auto, .reg [], .dec true, .reg [(.row t_10 (ARat.cells v))], .reg [.none, (.pv (vB val))], .dec true, .reg []]) (cj (dltN_t h1) (cj (o_at ARat.cells (Eq.refl (((t_10 : Nat) : Int) : Int)) h2) (cj h3 (cj (bnot_t h4) True.intro)))) (by kernel_rfl)
theorem l11 (p : List ARat) (t_10 : Nat) (v : ARat) (val : Bool) {r : PV} (h1 : t_10 < p.length) (h2 : p[t_10]? = some v) (h3 : Contract prg 28 [v.pv] (vB val)) (h4 : val = true) (h5 : (t_10 + 1) < 9223372036854775808) (hL : Loop1 p (t_10 + 1) r) : Loop1 p t_10 r :=
  L.go mixed tabOk (n := 144) (ns := [1, 3, 1, 1, 1]) (tr := [.auto, .reg [], .dec true, .reg [(.row t_10 (ARat.cells v))], .reg [.none, (.pv (vB val))], .dec false, .reg [(iI (((t_10 + 1) : Nat) : Int))], .keep [0, 8, 9, 10], .drop [4]]) (cj (dltN_t h1) (cj (o_at ARat.cells (Eq.refl (((t_10 : Nat) : Int) : Int)) h2) (cj h3 (cj (bnot_f h4) (cj (bs_addN h5) True.intro))))) (by kernel_rfl) hL
theorem l12 (p : List ARat) (t_10 k : Nat) (v : ARat) (sig : Int) (h1 : p.length ≤ t_10) (h2 : 0 < p.length) (h3 : InI64 ((p.length : Int) - 1)) (h4 : ((p.length : Int) - 1) = (k : Int)) (h5 : p[k]? = some v) (h6 : Contract prg 19 [v.pv] (vI sig)) (h7 : sig = 0) : Loop1 p t_10 (vI 8) :=
  L.done mixed tabOk (n := 141) (ns := [1, 1, 1, 1, 1, 1, 1, 1, 1, 3, 1, 1, 1, 1, 1, 1]) (tr := [.auto, .reg [], .dec false, .reg [.none, (iI (p.length : Int)), .none, .none, .none, .none, (iI (p.length : Int)), (iI ((p.length : Int) - 1)), (.row k (ARat.cells v)), .none, (.pv (vI sig)), .none, (.dec true)], .dec true, .reg []]) (cj (dltN_f h1) (cj (o_len ARat.cells p) (cj (dltN_t h2) (cj (dltN_t h2) (cj (dltN_t h2) (cj (o_len ARat.cells p) (cj (dltN_t h2) (cj (bs_sub h3) (cj (dltN_t h2) (cj (o_at ARat.cells h4 h5) (cj (dltN_t h2) (cj (dltN_t h2) (cj h6 (cj (dltN_t h2) (cj (dltN_t h2) (cj (deq_t h7) True.intro)))))))))))))))) (by kernel_rfl)
theorem l13 (p : List ARat) (t_10 k : Nat) (v : ARat) (sig : Int) (h1 : p.length ≤ t_10) (h2 : 0 < p.length) (h3 : InI64 ((p.length : Int) - 1)) (h4 : ((p.length : Int) - 1) = (k : Int)) (h5 : p[k]? = some v) (h6 : Contract prg 19 [v.pv] (vI sig)) (h7 : sig ≠ 0) : Loop1 p t_10 (vI 0) :=
  L.done mixed tabOk (n := 144) (ns := [1, 1, 1, 1, 1, 1, 1, 1, 1, 3, 1, 1, 1, 1, 1, 1]) (tr := [.auto, .reg [], .dec false, .reg [.none, (iI (p.length : Int)), .none, .none, .none, .none, (iI (p.length : Int)), (iI ((p.length : Int) - 1)), (.row k (ARat.cells v)), .none, (.pv (vI sig)), .none, (.dec true)], .dec false, .reg []]) (cj (dltN_f h1) (cj (o_len ARat.cells p) (cj (dltN_t h2) (cj (dltN_t h2) (cj (dltN_t h2) (cj (o_len ARat.cells p) (cj (dltN_t h2) (cj (bs_sub h3) (cj (dltN_t h2) (cj (o_at ARat.cells h4 h5) (cj (dltN_t h2) (cj (dltN_t h2) (cj h6 (cj (dltN_t h2) (cj (dltN_t h2) (cj (deq_f h7) True.intro)))))))))))))))) (by kernel_rfl)
theorem l14 (p : List ARat) (t_10 : Nat) (h1 : p.length ≤ t_10) (h2 : p.length ≤ 0) : Loop1 p t_10 (vI 0) :=
  L.done mixed tabOk (n := 144) (ns := [1, 1, 1, 1, 1, 1, 1, 1, 1, 1, 1]) (tr := [.auto, .reg [], .dec false, .reg [.none, (iI (p.length : Int)), .none, .none, .skip, .skip, .skip, .skip, .skip, .skip, .skip, .skip, (.dec false)], .auto, .reg []]) (cj (dltN_f h1) (cj (o_len ARat.cells p) (cj (dltN_f h2) (cj (dltN_f h2) (cj (dltN_f h2) (cj (dltN_f h2) (cj (dltN_f h2) (cj (dltN_f h2) (cj (dltN_f h2) (cj (dltN_f h2) (cj (dltN_f h2) True.intro))))))))))) (by kernel_rfl)
end linkworkref05_Check
end Go.Proofs.YtcgbmnkgmepikaaGreat.Sym.Path
namespace Go.Proofs.YtcgbmnkgmepikaaGreat.Sym
open Go Path CInt
set_option linter.unusedVariables false
namespace CRe
theorem Check1 : ∀ (j : Nat) (p : List ARat) (t : Nat), p.length - t = j → t ≤ p.length → p.length ≤ 65 → FitP 274877906944 p → (p.take t).all ARat.valid = true →
    (p.all ARat.valid = false → linkworkref05_Check.Loop1 p t (vI 2)) ∧ (p.all ARat.valid = true → lastZ (vals p) = true → linkworkref05_Check.Loop1 p t (vI 8)) ∧ (p.all ARat.valid = true → lastZ (vals p) = false → linkworkref05_Check.Loop1 p t (vI 0)) := by
  intro j
  induction j with
  | zero =>
    intro p t hj ht hl hf hv
    have hte : t = p.length := by omega
    subst hte
    rw [List.take_of_length_le (Nat.le_refl _)] at hv
    refine ⟨fun h => ?_, fun _ hz => ?_, fun _ hz => ?_⟩
    · rw [hv] at h; cases h
    · obtain ⟨v, h0, h1, h2⟩ := lastZ_true hz
      have sg := CRb.Sign v (hf v (List.mem_of_getElem? h1))
      exact linkworkref05_Check.l12 p _ (p.length - 1) v _ (Nat.le_refl _) h0 (by unfold InI64; omega) (by omega) h1 sg (cmpR_eq.2 h2)
    · by_cases h0 : p.length = 0
      · exact linkworkref05_Check.l14 p _ (Nat.le_refl _) (by omega)
      · obtain ⟨v, h1, h2⟩ := lastZ_false hz h0
        have sg := CRb.Sign v (hf v (List.mem_of_getElem? h1))
        exact linkworkref05_Check.l13 p _ (p.length - 1) v _ (Nat.le_refl _) (by omega) (by unfold InI64; omega) (by omega) h1 sg (fun e => h2 (cmpR_eq.1 e))
  | succ j ih =>
    intro p t hj ht hl hf hv
    obtain ⟨v, h1⟩ : ∃ v, p[t]? = some v := ⟨_, List.getElem?_eq_getElem (by omega)⟩
    have hva := CRb.Valid v (hf v (List.mem_of_getElem? h1))
    cases hc : v.valid with
    | false =>
      have hall : p.all ARat.valid = false := by
        rw [List.all_eq_false]
        exact ⟨v, List.mem_of_getElem? h1, by rw [hc]; simp⟩
      refine ⟨fun _ => linkworkref05_Check.l10 p t v _ (by omega) h1 hva hc, fun h => ?_, fun h => ?_⟩
      · rw [hall] at h; cases h
      · rw [hall] at h; cases h
    | true =>
      obtain ⟨g1, g2, g3⟩ := ih p (t + 1) (by omega) (by omega) hl hf (by rw [List.take_add_one, h1]; simp [hv, hc])
      exact ⟨fun h => linkworkref05_Check.l11 p t v _ (by omega) h1 hva hc (by omega) (g1 h), fun h h' => linkworkref05_Check.l11 p t v _ (by omega) h1 hva hc (by omega) (g2 h h'), fun h h' => linkworkref05_Check.l11 p t v _ (by omega) h1 hva hc (by omega) (g3 h h')⟩
theorem Check (p : List ARat) (hf : FitP 274877906944 p) : Contract prg 69 [polyPV p] (vI (chk p)) := by
  unfold chk
  by_cases hl : p.length ≤ 65
  · rw [if_neg (by omega)]
    obtain ⟨g1, g2, g3⟩ := Check1 _ p 0 rfl (by omega) hl hf (by simp)
    cases hv : p.all ARat.valid with
    | false => exact linkworkref05_Check.e1 p hl (g1 hv)
    | true =>
      cases hz : lastZ (vals p) with
      | true => exact linkworkref05_Check.e1 p hl (g2 hv hz)
      | false => exact linkworkref05_Check.e1 p hl (g3 hv hz)
  · rw [if_pos (by omega)]
    exact linkworkref05_Check.e0 p (by omega)
end CRe
end Go.Proofs.YtcgbmnkgmepikaaGreat.Sym
namespace Go.Proofs.YtcgbmnkgmepikaaGreat.Sym
open Go Path CInt
set_option linter.unusedVariables false
theorem cmpR_ge {p q : Rat} : 0 ≤ cmpR p q ↔ q ≤ p := by
  constructor
  · intro h
    have : ¬ p < q := fun e => by have := cmpR_lt.2 e; omega
    grind
  · intro h
    refine Int.not_lt.1 fun e => ?_
    have := cmpR_lt.1 e
    grind
theorem cmpR_le {p q : Rat} : cmpR p q ≤ 0 ↔ p ≤ q := by
  constructor
  · intro h
    have : ¬ q < p := fun e => by have := cmpR_gt.2 e; omega
    grind
  · intro h
    refine Int.not_lt.1 fun e => ?_
    have := cmpR_gt.1 e
    grind
theorem drop_cons {α : Type} {l : List α} {t : Nat} {v : α} (h : l[t]? = some v) : l.drop t = v :: l.drop (t + 1) := by
  obtain ⟨h1, h2⟩ := List.getElem?_eq_some_iff.1 h
  rw [List.drop_eq_getElem_cons h1, h2]
theorem fitK {q : Rat} (h : ht q ≤ 68719476736) : FitR (mkR q) := fit_mkR (by omega)
theorem ht_min (p q : Rat) {k : Nat} (hp : ht p ≤ k) (hq : ht q ≤ k) : ht (minR p q) ≤ k := by unfold minR; split <;> assumption
theorem ht_max (p q : Rat) {k : Nat} (hp : ht p ≤ k) (hq : ht q ≤ k) : ht (maxR p q) ≤ k := by unfold maxR; split <;> assumption
theorem minR_self (p : Rat) : minR p p = p := by unfold minR; split <;> rfl
theorem maxR_self (p : Rat) : maxR p p = p := by unfold maxR; split <;> rfl
theorem minR_le_l (p q : Rat) : minR p q ≤ p := by
  unfold minR; split
  · exact Rat.le_refl
  · rename_i h; have := mt cmpR_le.2 h; grind
theorem minR_le_r (p q : Rat) : minR p q ≤ q := by
  unfold minR; split
  · rename_i h; exact cmpR_le.1 h
  · exact Rat.le_refl
theorem maxR_ge_l (p q : Rat) : p ≤ maxR p q := by
  unfold maxR; split
  · exact Rat.le_refl
  · rename_i h; have := mt cmpR_ge.2 h; grind
theorem maxR_ge_r (p q : Rat) : q ≤ maxR p q := by
  unfold maxR; split
  · rename_i h; exact cmpR_ge.1 h
  · exact Rat.le_refl
theorem le_minR {a p q : Rat} (h : a ≤ p) (h2 : a ≤ q) : a ≤ minR p q := by unfold minR; split <;> assumption
theorem maxR_le {a p q : Rat} (h : p ≤ a) (h2 : q ≤ a) : maxR p q ≤ a := by unfold maxR; split <;> assumption
namespace QF
theorem Add (p q : Rat) (hp : ht p ≤ 68719476736) (hq : ht q ≤ 68719476736) : Contract prg 32 [(mkR p).pv, (mkR q).pv] (mkR (p + q)).pv := by
  have h := CFr.Add (mkR p) (mkR q) ⟨by have := (fit_mkRk hp).1; omega, by have := (fit_mkRk hp).2; omega⟩ ⟨by have := (fit_mkRk hq).1; omega, by have := (fit_mkRk hq).2; omega⟩
  rwa [mkR_val, mkR_val] at h
theorem Sub (p q : Rat) (hp : ht p ≤ 68719476736) (hq : ht q ≤ 68719476736) : Contract prg 51 [(mkR p).pv, (mkR q).pv] (mkR (p - q)).pv := by
  have h := CFr.Sub (mkR p) (mkR q) ⟨by have := (fit_mkRk hp).1; omega, by have := (fit_mkRk hp).2; omega⟩ ⟨by have := (fit_mkRk hq).1; omega, by have := (fit_mkRk hq).2; omega⟩
  rwa [mkR_val, mkR_val] at h
theorem Mul (p q : Rat) (hp : ht p ≤ 68719476736) (hq : ht q ≤ 68719476736) : Contract prg 54 [(mkR p).pv, (mkR q).pv] (mkR (p * q)).pv := by
  have h := CFr.Mul (mkR p) (mkR q) ⟨by have := (fit_mkRk hp).1; omega, by have := (fit_mkRk hp).2; omega⟩ ⟨by have := (fit_mkRk hq).1; omega, by have := (fit_mkRk hq).2; omega⟩
  rwa [mkR_val, mkR_val] at h
theorem Cmp (p q : Rat) (hp : ht p ≤ 68719476736) (hq : ht q ≤ 68719476736) : Contract prg 38 [(mkR p).pv, (mkR q).pv] (vI (cmpR p q)) := by
  have h := CFr.Cmp (mkR p) (mkR q) ⟨by have := (fit_mkRk hp).1; omega, by have := (fit_mkRk hp).2; omega⟩ ⟨by have := (fit_mkRk hq).1; omega, by have := (fit_mkRk hq).2; omega⟩
  rwa [mkR_val, mkR_val] at h
theorem Min (p q : Rat) (hp : ht p ≤ 68719476736) (hq : ht q ≤ 68719476736) : Contract prg 135 [(mkR p).pv, (mkR q).pv] (mkR (minR p q)).pv := by
  have h := CFr.Min (mkR p) (mkR q) ⟨by have := (fit_mkRk hp).1; omega, by have := (fit_mkRk hp).2; omega⟩ ⟨by have := (fit_mkRk hq).1; omega, by have := (fit_mkRk hq).2; omega⟩
  rwa [mkR_val, mkR_val] at h
theorem Max (p q : Rat) (hp : ht p ≤ 68719476736) (hq : ht q ≤ 68719476736) : Contract prg 136 [(mkR p).pv, (mkR q).pv] (mkR (maxR p q)).pv := by
  have h := CFr.Max (mkR p) (mkR q) ⟨by have := (fit_mkRk hp).1; omega, by have := (fit_mkRk hp).2; omega⟩ ⟨by have := (fit_mkRk hq).1; omega, by have := (fit_mkRk hq).2; omega⟩
  rwa [mkR_val, mkR_val] at h
theorem Sign (p : Rat) (hp : ht p ≤ 68719476736) : Contract prg 39 [(mkR p).pv] (vI (cmpR p 0)) := by
  have h := CFr.Sign (mkR p) (fitK hp)
  rwa [mkR_val] at h
theorem addZ (p : Rat) (hp : ht p ≤ 68719476736) : Contract prg 32 [(mkR p).pv, (⟨false, [], []⟩ : ARat).pv] (mkR p).pv := by
  have h := Add p 0 hp (by decide)
  rwa [Rat.add_zero] at h
end QF
end Go.Proofs.YtcgbmnkgmepikaaGreat.Sym
namespace Go.Proofs.YtcgbmnkgmepikaaGreat.Sym.Path
open Go
set_option maxRecDepth 20000
set_option linter.unusedVariables false
namespace linkworkbase_Rat
theorem e0 (a b : ARat) (wor wor1 : Bool) (h1 : a.neg = b.neg) (h2 : Contract prg 62 [(wordsPV a.num), (wordsPV b.num)] (vB wor)) (h3 : wor = true) (h4 : Contract prg 62 [(wordsPV a.den), (wordsPV b.den)] (vB wor1)) : Contract prg 17 [a.pv, b.pv] (vB wor1) :=
  Contract.ofL Tryz.func17 (by kernel_rfl) (L.done mixed tabOk (n := 72) (ns := [1, 1, 1, 1, 1, 1, 1, 1, 1, 1, 1, 1, 1, 1]) (tr := [.reg [], .reg [.none, .none, .none, .none, .none, .none, .none, .none, .none, .none, (.pv (vB wor)), (.dec true), .none, .none, .none, .none, .none, (.pv (vB wor1)), (.dec true)]]) (cj (beq_t h1) (cj (beq_t h1) (cj (beq_t h1) (cj (beq_t h1) (cj (beq_t h1) (cj h2 (cj (beq_t h1) (cj h3 (cj h3 (cj h3 (cj h3 (cj h3 (cj h4 (cj h3 True.intro)))))))))))))) (by kernel_rfl))
theorem e1 (a b : ARat) (wor : Bool) (h1 : a.neg = b.neg) (h2 : Contract prg 62 [(wordsPV a.num), (wordsPV b.num)] (vB wor)) (h3 : wor = false) : Contract prg 17 [a.pv, b.pv] (vB false) :=
  Contract.ofL Tryz.func17 (by kernel_rfl) (L.done mixed tabOk (n := 72) (ns := [1, 1, 1, 1, 1, 1, 1, 1, 1, 1, 1, 1, 1]) (tr := [.reg [], .reg [.none, .none, .none, .none, .none, .none, .none, .none, .none, .none, (.pv (vB wor)), (.dec true), .none, .skip, .skip, .skip, .skip, .skip, (.dec false)]]) (cj (beq_t h1) (cj (beq_t h1) (cj (beq_t h1) (cj (beq_t h1) (cj (beq_t h1) (cj h2 (cj (beq_t h1) (cj h3 (cj h3 (cj h3 (cj h3 (cj h3 (cj h3 True.intro))))))))))))) (by kernel_rfl))
theorem e2 (a b : ARat) (h1 : a.neg ≠ b.neg) : Contract prg 17 [a.pv, b.pv] (vB false) :=
  Contract.ofL Tryz.func17 (by kernel_rfl) (L.done mixed tabOk (n := 72) (ns := [1, 1, 1, 1, 1, 1, 1, 1, 1, 1, 1]) (tr := [.reg [], .reg [.none, .none, .none, .none, .none, .none, .skip, .skip, .skip, .skip, .skip, (.dec false), .none, .skip, .skip, .skip, .skip, .skip]]) (cj (beq_f h1) (cj (beq_f h1) (cj (beq_f h1) (cj (beq_f h1) (cj (beq_f h1) (cj (beq_f h1) (cj (Eq.refl false) (cj (Eq.refl false) (cj (Eq.refl false) (cj (Eq.refl false) (cj (Eq.refl false) True.intro))))))))))) (by kernel_rfl))
end linkworkbase_Rat
namespace interval_Contains
theorem e0 (a : ARange) (x : ARat) (cle : ARange) (cmp cmp1 : Int) (h1 : Contract prg 89 [a.pv] cle.pv) (h2 : Contract prg 38 [cle.lo.pv, x.pv] (vI cmp)) (h3 : cmp ≤ 0) (h4 : Contract prg 38 [x.pv, cle.hi.pv] (vI cmp1)) : Contract prg 36 [a.pv, x.pv] (vB (decide (cmp1 ≤ 0))) :=
  Contract.ofL Tryz.func36 (by kernel_rfl) (L.done mixed tabOk (n := 78) (ns := [1, 1, 1, 1, 1, 1, 1, 1, 1]) (tr := [.reg [], .reg [.none, (.pv cle.pv)], .reg [.none, .none, .none, (.pv (vI cmp)), .none, .none, .none, .none, .none, (.pv (vI cmp1)), .none, (.dec true)]]) (cj h1 (cj h2 (cj (dle_t h3) (cj (dle_t h3) (cj (dle_t h3) (cj (dle_t h3) (cj h4 (cj (dle_t h3) (cj (dle_t h3) True.intro))))))))) (by kernel_rfl))
theorem e1 (a : ARange) (x : ARat) (cle : ARange) (cmp : Int) (h1 : Contract prg 89 [a.pv] cle.pv) (h2 : Contract prg 38 [cle.lo.pv, x.pv] (vI cmp)) (h3 : 0 < cmp) : Contract prg 36 [a.pv, x.pv] (vB false) :=
  Contract.ofL Tryz.func36 (by kernel_rfl) (L.done mixed tabOk (n := 78) (ns := [1, 1, 1, 1, 1, 1, 1, 1]) (tr := [.reg [], .reg [.none, (.pv cle.pv)], .reg [.none, .none, .none, (.pv (vI cmp)), .none, .none, .skip, .skip, .skip, .skip, .skip, (.dec false)]]) (cj h1 (cj h2 (cj (dle_f h3) (cj (dle_f h3) (cj (dle_f h3) (cj (dle_f h3) (cj (dle_f h3) (cj (dle_f h3) True.intro)))))))) (by kernel_rfl))
end interval_Contains
namespace linkworkbase_Rats
@[reducible] noncomputable def fn : Func := Tryz.f49
noncomputable def atK1 : List Itm := focus [0, 2, 0, 0, 2, 1, 2, 0, 0, 2, 0, 0] [.code (bodyOf fn)]
def inv1 (a b : List ARat) (i_5 : Nat) : St := ⟨[(0, (.pv (polyPV a))), (1, (.pv (polyPV b))), (5, (eI (i_5 : Int)))], []⟩
@[reducible] noncomputable def Loop1 (a b : List ARat) (i_5 : Nat) (r : PV) : Prop := L prg fn atK1 (inv1 a b i_5) r
theorem e0 (a b : List ARat) (h1 : a.length ≠ b.length) : Contract prg 49 [(polyPV a), (polyPV b)] (vB false) :=
  Contract.ofL Tryz.func49 (by kernel_rfl) (L.done mixed tabOk (n := 84) (ns := [1, 1, 1]) (tr := [.reg [], .reg [.none, (iI (a.length : Int)), .none, (iI (b.length : Int))], .dec true, .reg []]) (cj (o_len ARat.cells a) (cj (o_len ARat.cells b) (cj (dneN_t h1) True.intro))) (by kernel_rfl))
theorem e1 (a b : List ARat) {r : PV} (h1 : a.length = b.length) (hL : Loop1 a b 0 r) : Contract prg 49 [(polyPV a), (polyPV b)] r :=
  Contract.ofL Tryz.func49 (by kernel_rfl) (L.go mixed tabOk (n := 96) (ns := [1, 1, 1]) (tr := [.reg [], .reg [.none, (iI (a.length : Int)), .none, (iI (b.length : Int))], .dec false, .reg [], .keep [0, 1, 5]]) (cj (o_len ARat.cells a) (cj (o_len ARat.cells b) (cj (dneN_f h1) True.intro))) (by kernel_rfl) hL)
theorem l10 (a b : List ARat) (i_5 : Nat) (v v1 : ARat) (rat : Bool) (h1 : i_5 < a.length) (h2 : a[i_5]? = some v) (h3 : b[i_5]? = some v1) (h4 : Contract prg 17 [v.pv, v1.pv] (vB rat)) (h5 : rat = false) : Loop1 a b i_5 (vB false) :=
  L.done mixed tabOk (n := 135) (ns := [1, 1, 3, 3, 1, 1]) (tr := [.auto, .reg [.none, .none, (iI (a.length : Int))], .dec true, dr 10 0 [.none, .none, (.row i_5 (ARat.cells v)), .none, .none, .none, (.row i_5 (ARat.cells v1)), .none, (.pv (vB rat))], .dec true, .reg []]) (cj (o_len ARat.cells a) (cj (dltN_t h1) (cj (o_at ARat.cells (Eq.refl (((i_5 : Nat) : Int) : Int)) h2) (cj (o_at ARat.cells (Eq.refl (((i_5 : Nat) : Int) : Int)) h3) (cj h4 (cj (bnot_t h5) True.intro)))))) (by kernel_rfl)
theorem l11 (a b : List ARat) (i_5 : Nat) (v v1 : ARat) (rat : Bool) {r : PV} (h1 : i_5 < a.length) (h2 : a[i_5]? = some v) (h3 : b[i_5]? = some v1) (h4 : Contract prg 17 [v.pv, v1.pv] (vB rat)) (h5 : rat = true) (h6 : (i_5 + 1) < 9223372036854775808) (hL : Loop1 a b (i_5 + 1) r) : Loop1 a b i_5 r :=
  L.go mixed tabOk (n := 138) (ns := [1, 1, 3, 3, 1, 1, 1]) (tr := [.auto, .reg [.none, .none, (iI (a.length : Int))], .dec true, dr 10 0 [.none, .none, (.row i_5 (ARat.cells v)), .none, .none, .none, (.row i_5 (ARat.cells v1)), .none, (.pv (vB rat))], .dec false, .reg [.none, (iI (((i_5 + 1) : Nat) : Int))], .keep [0, 1, 5]]) (cj (o_len ARat.cells a) (cj (dltN_t h1) (cj (o_at ARat.cells (Eq.refl (((i_5 : Nat) : Int) : Int)) h2) (cj (o_at ARat.cells (Eq.refl (((i_5 : Nat) : Int) : Int)) h3) (cj h4 (cj (bnot_f h5) (cj (bs_addN h6) True.intro))))))) (by kernel_rfl) hL
theorem l12 (a b : List ARat) (i_5 : Nat) (h1 : a.length ≤ i_5) : Loop1 a b i_5 (vB true) :=
  L.done mixed tabOk (n := 129) (ns := [1, 1]) (tr := [.auto, .reg [.none, .none, (iI (a.length : Int))], .dec false, .reg []]) (cj (o_len ARat.cells a) (cj (dltN_f h1) True.intro)) (by kernel_rfl)
end linkworkbase_Rats
namespace linkworkbase_Words
@[reducible] noncomputable def fn : Func := Tryz.f62
noncomputable def atK1 : List Itm := focus [0, 2, 0, 0, 2, 1, 2, 0, 0, 2, 0, 0] [.code (bodyOf fn)]
def inv1 (a b : List UInt32) (i_5 : Nat) : St := ⟨[(0, (.pv (wordsPV a))), (1, (.pv (wordsPV b))), (5, (eI (i_5 : Int)))], []⟩
@[reducible] noncomputable def Loop1 (a b : List UInt32) (i_5 : Nat) (r : PV) : Prop := L prg fn atK1 (inv1 a b i_5) r
theorem e0 (a b : List UInt32) (h1 : a.length ≠ b.length) : Contract prg 62 [(wordsPV a), (wordsPV b)] (vB false) :=
  Contract.ofL Tryz.func62 (by kernel_rfl) (L.done mixed tabOk (n := 84) (ns := [1, 1, 1]) (tr := [.reg [], .reg [.none, (iI (a.length : Int)), .none, (iI (b.length : Int))], .dec true, .reg []]) (cj (o_len wordPV a) (cj (o_len wordPV b) (cj (dneN_t h1) True.intro))) (by kernel_rfl))
theorem e1 (a b : List UInt32) {r : PV} (h1 : a.length = b.length) (hL : Loop1 a b 0 r) : Contract prg 62 [(wordsPV a), (wordsPV b)] r :=
  Contract.ofL Tryz.func62 (by kernel_rfl) (L.go mixed tabOk (n := 96) (ns := [1, 1, 1]) (tr := [.reg [], .reg [.none, (iI (a.length : Int)), .none, (iI (b.length : Int))], .dec false, .reg [], .keep [0, 1, 5]]) (cj (o_len wordPV a) (cj (o_len wordPV b) (cj (dneN_f h1) True.intro))) (by kernel_rfl) hL)
theorem l10 (a b : List UInt32) (i_5 : Nat) (v v1 : UInt32) (h1 : i_5 < a.length) (h2 : a[i_5]? = some v) (h3 : b[i_5]? = some v1) (h4 : v.toNat ≠ v1.toNat) : Loop1 a b i_5 (vB false) :=
  L.done mixed tabOk (n := 135) (ns := [1, 1, 3, 3, 1]) (tr := [.auto, .reg [.none, .none, (iI (a.length : Int))], .dec true, dr 9 0 [.none, .none, (.row i_5 (wordPV v)), .none, .none, .none, (.row i_5 (wordPV v1))], .dec true, .reg []]) (cj (o_len wordPV a) (cj (dltN_t h1) (cj (o_at wordPV (Eq.refl (((i_5 : Nat) : Int) : Int)) h2) (cj (o_at wordPV (Eq.refl (((i_5 : Nat) : Int) : Int)) h3) (cj (dneN_t h4) True.intro))))) (by kernel_rfl)
theorem l11 (a b : List UInt32) (i_5 : Nat) (v v1 : UInt32) {r : PV} (h1 : i_5 < a.length) (h2 : a[i_5]? = some v) (h3 : b[i_5]? = some v1) (h4 : v.toNat = v1.toNat) (h5 : (i_5 + 1) < 9223372036854775808) (hL : Loop1 a b (i_5 + 1) r) : Loop1 a b i_5 r :=
  L.go mixed tabOk (n := 138) (ns := [1, 1, 3, 3, 1, 1]) (tr := [.auto, .reg [.none, .none, (iI (a.length : Int))], .dec true, dr 9 0 [.none, .none, (.row i_5 (wordPV v)), .none, .none, .none, (.row i_5 (wordPV v1))], .dec false, .reg [.none, (iI (((i_5 + 1) : Nat) : Int))], .keep [0, 1, 5]]) (cj (o_len wordPV a) (cj (dltN_t h1) (cj (o_at wordPV (Eq.refl (((i_5 : Nat) : Int) : Int)) h2) (cj (o_at wordPV (Eq.refl (((i_5 : Nat) : Int) : Int)) h3) (cj (dneN_f h4) (cj (bs_addN h5) True.intro)))))) (by kernel_rfl) hL
theorem l12 (a b : List UInt32) (i_5 : Nat) (h1 : a.length ≤ i_5) : Loop1 a b i_5 (vB true) :=
  L.done mixed tabOk (n := 129) (ns := [1, 1]) (tr := [.auto, .reg [.none, .none, (iI (a.length : Int))], .dec false, .reg []]) (cj (o_len wordPV a) (cj (dltN_f h1) True.intro)) (by kernel_rfl)
end linkworkbase_Words
namespace interval_Hull
theorem e0 (a b cle cle1 : ARange) (minV maxV : ARat) (h1 : Contract prg 89 [a.pv] cle.pv) (h2 : Contract prg 89 [b.pv] cle1.pv) (h3 : Contract prg 135 [cle.lo.pv, cle1.lo.pv] minV.pv) (h4 : Contract prg 136 [cle.hi.pv, cle1.hi.pv] maxV.pv) : Contract prg 86 [a.pv, b.pv] ((⟨minV, maxV⟩ : ARange).pv) :=
  Contract.ofL Tryz.func86 (by kernel_rfl) (L.done mixed tabOk (n := 78) (ns := [1, 1, 1, 1]) (tr := [.reg [], dr 4 2 [.none, (.pv cle.pv), .none, (.pv cle1.pv)], dr 11 1 [.none, .none, .none, .none, (.pv minV.pv), .none, .none, .none, .none, (.pv maxV.pv)]]) (cj h1 (cj h2 (cj h3 (cj h4 True.intro)))) (by kernel_rfl))
end interval_Hull
namespace interval_clean
theorem e0 (a : ARange) (val : Bool) (h1 : Contract prg 137 [a.pv] (vB val)) (h2 : val = false) : Contract prg 89 [a.pv] ((⟨(⟨false, [], []⟩ : ARat), (⟨false, [], []⟩ : ARat)⟩ : ARange).pv) :=
  Contract.ofL Tryz.func89 (by kernel_rfl) (L.done mixed tabOk (n := 84) (ns := [1, 1]) (tr := [.reg [], .reg [.none, (.pv (vB val))], .dec true, .reg []]) (cj h1 (cj (bnot_t h2) True.intro)) (by kernel_rfl))
theorem e1 (a : ARange) (val : Bool) (add add1 : ARat) (h1 : Contract prg 137 [a.pv] (vB val)) (h2 : val = true) (h3 : Contract prg 32 [a.lo.pv, (⟨false, [], []⟩ : ARat).pv] add.pv) (h4 : Contract prg 32 [a.hi.pv, (⟨false, [], []⟩ : ARat).pv] add1.pv) : Contract prg 89 [a.pv] ((⟨add, add1⟩ : ARange).pv) :=
  Contract.ofL Tryz.func89 (by kernel_rfl) (L.done mixed tabOk (n := 87) (ns := [1, 1, 1, 1]) (tr := [.reg [], .reg [.none, (.pv (vB val))], .dec false, dr 9 1 [.none, .none, .none, (.pv add.pv), .none, .none, .none, (.pv add1.pv)]]) (cj h1 (cj (bnot_f h2) (cj h3 (cj h4 True.intro)))) (by kernel_rfl))
end interval_clean
namespace interval_Point
theorem e0 (x add add1 : ARat) (h1 : Contract prg 32 [x.pv, (⟨false, [], []⟩ : ARat).pv] add.pv) (h2 : Contract prg 32 [x.pv, (⟨false, [], []⟩ : ARat).pv] add1.pv) : Contract prg 132 [x.pv] ((⟨add, add1⟩ : ARange).pv) :=
  Contract.ofL Tryz.func132 (by kernel_rfl) (L.done mixed tabOk (n := 72) (ns := [1, 1]) (tr := [.reg [], dr 7 1 [.none, .none, (.pv add.pv), .none, .none, (.pv add1.pv)]]) (cj h1 (cj h2 True.intro)) (by kernel_rfl))
end interval_Point
namespace interval_Add
theorem e0 (a b cle cle1 : ARange) (add add1 : ARat) (h1 : Contract prg 89 [a.pv] cle.pv) (h2 : Contract prg 89 [b.pv] cle1.pv) (h3 : Contract prg 32 [cle.lo.pv, cle1.lo.pv] add.pv) (h4 : Contract prg 32 [cle.hi.pv, cle1.hi.pv] add1.pv) : Contract prg 133 [a.pv, b.pv] ((⟨add, add1⟩ : ARange).pv) :=
  Contract.ofL Tryz.func133 (by kernel_rfl) (L.done mixed tabOk (n := 78) (ns := [1, 1, 1, 1]) (tr := [.reg [], dr 4 2 [.none, (.pv cle.pv), .none, (.pv cle1.pv)], dr 11 1 [.none, .none, .none, .none, (.pv add.pv), .none, .none, .none, .none, (.pv add1.pv)]]) (cj h1 (cj h2 (cj h3 (cj h4 True.intro)))) (by kernel_rfl))
end interval_Add
namespace interval_Mul
@[reducible] noncomputable def fn : Func := Tryz.f134
noncomputable def atK1 : List Itm := focus [0, 2, 0, 2, 0, 2, 0, 2, 0, 0, 2, 0, 0] [.code (bodyOf fn)]
def inv1 (t_40 : Nat) (site_6 : ARange) (mul1 mul2 mul3 : ARat) : St := ⟨[(4, (.ptr 4 0)), (6, (.ptr 6 0)), (38, (.row 38 0 3 3)), (39, (eI 3)), (40, (eI (t_40 : Int)))], [(4, (.lit [(eB false), (.pv (.list [])), (.pv (.list [])), (eB false), (.pv (.list [])), (.pv (.list []))])), (6, (.lit [(eB site_6.lo.neg), (.pv (wordsPV site_6.lo.num)), (.pv (wordsPV site_6.lo.den)), (eB site_6.hi.neg), (.pv (wordsPV site_6.hi.num)), (.pv (wordsPV site_6.hi.den))])), (38, (.pure (([mul1, mul2, mul3] : List ARat).map ARat.cells).flatten))]⟩
@[reducible] noncomputable def Loop1 (t_40 : Nat) (site_6 : ARange) (mul1 mul2 mul3 : ARat) (r : PV) : Prop := L prg fn atK1 (inv1 t_40 site_6 mul1 mul2 mul3) r
theorem e0 (a b cle cle1 : ARange) (mul add mul1 mul2 mul3 : ARat) {r : PV} (h1 : Contract prg 89 [a.pv] cle.pv) (h2 : Contract prg 89 [b.pv] cle1.pv) (h3 : Contract prg 54 [cle.lo.pv, cle1.lo.pv] mul.pv) (h4 : Contract prg 32 [mul.pv, (⟨false, [], []⟩ : ARat).pv] add.pv) (h5 : Contract prg 54 [cle.lo.pv, cle1.hi.pv] mul1.pv) (h6 : Contract prg 54 [cle.hi.pv, cle1.lo.pv] mul2.pv) (h7 : Contract prg 54 [cle.hi.pv, cle1.hi.pv] mul3.pv) (hL : Loop1 0 (⟨mul, add⟩ : ARange) mul1 mul2 mul3 r) : Contract prg 134 [a.pv, b.pv] r :=
  Contract.ofL Tryz.func134 (by kernel_rfl) (L.go mixed tabOk (n := 99) (ns := [1, 1, 1, 1, 1, 1, 1]) (tr := [.reg [], dr 4 2 [.none, (.pv cle.pv), .none, (.pv cle1.pv)], .reg [.none, .none, .none, .none, (.pv mul.pv)], dr 6 1 [.none, .none, .none, (.pv add.pv)], dr 18 0 [.none, .none, .none, .none, (.pv mul1.pv), .none, .none, .none, .none, (.pv mul2.pv), .none, .none, .none, .none, (.pv mul3.pv)], .keep [4, 6, 38, 39, 40], .drop [5, 3, 2], .ord [4, 6, 38]]) (cj h1 (cj h2 (cj h3 (cj h4 (cj h5 (cj h6 (cj h7 True.intro))))))) (by kernel_rfl) hL)
theorem l10 (t_40 : Nat) (site_6 : ARange) (mul1 mul2 mul3 v minV maxV : ARat) {r : PV} (h1 : t_40 < 3) (h2 : [mul1, mul2, mul3][t_40]? = some v) (h3 : Contract prg 135 [site_6.lo.pv, v.pv] minV.pv) (h4 : Contract prg 136 [site_6.hi.pv, v.pv] maxV.pv) (h5 : (t_40 + 1) < 9223372036854775808) (hL : Loop1 (t_40 + 1) (⟨minV, maxV⟩ : ARange) mul1 mul2 mul3 r) : Loop1 t_40 site_6 mul1 mul2 mul3 r :=
  L.go mixed tabOk (n := 138) (ns := [1, 2, 2, 1, 1, 1]) (tr := [.auto, .reg [], .dec true, .reg [(.nat t_40), (.seg [(vB v.neg), (wordsPV v.num), (wordsPV v.den)])], dr 9 1 [.none, .none, .none, (.pv minV.pv), .none, .none, .none, (.pv maxV.pv)], .reg [(iI (((t_40 + 1) : Nat) : Int))], .keep [4, 6, 38, 39, 40], .drop [8]]) (cj (dltN_t h1) (cj (cj (Eq.refl (((t_40 : Nat) : Int) : Int)) h1) (cj (o_seg sz_ARat h2) (cj h3 (cj h4 (cj (bs_addN h5) True.intro)))))) (by kernel_rfl) hL
theorem l11 (t_40 : Nat) (site_6 : ARange) (mul1 mul2 mul3 : ARat) (h1 : 3 ≤ t_40) : Loop1 t_40 site_6 mul1 mul2 mul3 site_6.pv :=
  L.done mixed tabOk (n := 132) (ns := [1]) (tr := [.auto, .reg [], .dec false, .reg []]) (cj (dltN_f h1) True.intro) (by kernel_rfl)
end interval_Mul
namespace interval_Valid
theorem e0 (a : ARange) (val val1 : Bool) (cmp : Int) (h1 : Contract prg 50 [a.lo.pv] (vB val)) (h2 : val = true) (h3 : Contract prg 50 [a.hi.pv] (vB val1)) (h4 : val1 = true) (h5 : Contract prg 38 [a.lo.pv, a.hi.pv] (vI cmp)) : Contract prg 137 [a.pv] (vB (decide (cmp ≤ 0))) :=
  Contract.ofL Tryz.func137 (by kernel_rfl) (L.done mixed tabOk (n := 72) (ns := [1, 1, 1, 1, 1, 1, 1, 1, 1, 1, 1, 1, 1, 1]) (tr := [.reg [], .reg [.none, .none, (.pv (vB val)), .none, .none, .none, (.pv (vB val1)), (.dec true), .none, .none, .none, .none, .none, (.pv (vI cmp)), .none, (.dec true)]]) (cj h1 (cj h2 (cj h2 (cj h2 (cj h3 (cj h2 (cj h4 (cj h4 (cj h4 (cj h4 (cj h4 (cj h5 (cj h4 (cj h4 True.intro)))))))))))))) (by kernel_rfl))
theorem e1 (a : ARange) (val val1 : Bool) (h1 : Contract prg 50 [a.lo.pv] (vB val)) (h2 : val = true) (h3 : Contract prg 50 [a.hi.pv] (vB val1)) (h4 : val1 = false) : Contract prg 137 [a.pv] (vB false) :=
  Contract.ofL Tryz.func137 (by kernel_rfl) (L.done mixed tabOk (n := 72) (ns := [1, 1, 1, 1, 1, 1, 1, 1, 1, 1, 1, 1, 1]) (tr := [.reg [], .reg [.none, .none, (.pv (vB val)), .none, .none, .none, (.pv (vB val1)), (.dec true), .none, .skip, .skip, .skip, .skip, .skip, .skip, (.dec false)]]) (cj h1 (cj h2 (cj h2 (cj h2 (cj h3 (cj h2 (cj h4 (cj h4 (cj h4 (cj h4 (cj h4 (cj h4 (cj h4 True.intro))))))))))))) (by kernel_rfl))
theorem e2 (a : ARange) (val : Bool) (h1 : Contract prg 50 [a.lo.pv] (vB val)) (h2 : val = false) : Contract prg 137 [a.pv] (vB false) :=
  Contract.ofL Tryz.func137 (by kernel_rfl) (L.done mixed tabOk (n := 72) (ns := [1, 1, 1, 1, 1, 1, 1, 1, 1, 1, 1]) (tr := [.reg [], .reg [.none, .none, (.pv (vB val)), .none, .skip, .skip, .skip, (.dec false), .none, .skip, .skip, .skip, .skip, .skip, .skip]]) (cj h1 (cj h2 (cj h2 (cj h2 (cj h2 (cj (Eq.refl false) (cj (Eq.refl false) (cj (Eq.refl false) (cj (Eq.refl false) (cj (Eq.refl false) (cj (Eq.refl false) True.intro))))))))))) (by kernel_rfl))
end interval_Valid
end Go.Proofs.YtcgbmnkgmepikaaGreat.Sym.Path
namespace Go.Proofs.YtcgbmnkgmepikaaGreat.Sym
open Go Path CInt
set_option linter.unusedVariables false
def eqR (a b : ARat) : Bool := decide (a.neg = b.neg) && (decide (a.num = b.num) && decide (a.den = b.den))
theorem eqR_iff {a b : ARat} : eqR a b = true ↔ a = b := by
  obtain ⟨n, m, d⟩ := a
  obtain ⟨n', m', d'⟩ := b
  unfold eqR
  simp only [Bool.and_eq_true, decide_eq_true_eq, ARat.mk.injEq]
theorem eqR_self (a : ARat) : eqR a a = true := eqR_iff.2 rfl
def eqRs : List ARat → List ARat → Bool
  | [], [] => true
  | a :: r, b :: s => eqR a b && eqRs r s
  | _, _ => false
theorem eqRs_iff : ∀ {p q : List ARat}, eqRs p q = true ↔ p = q
  | [], [] => by simp [eqRs]
  | a :: r, b :: s => by
    show (eqR a b && eqRs r s) = true ↔ _
    rw [Bool.and_eq_true, eqR_iff, eqRs_iff, List.cons.injEq]
  | [], b :: s => by simp [eqRs]
  | a :: r, [] => by simp [eqRs]
theorem eqRs_self (p : List ARat) : eqRs p p = true := eqRs_iff.2 rfl
theorem eqRs_ne {p q : List ARat} (h : p ≠ q) : eqRs p q = false := by
  cases hb : eqRs p q with
  | true => exact absurd (eqRs_iff.1 hb) h
  | false => rfl
namespace CBa
theorem Words (a b : Sym.Words) (hl : a.length < 9223372036854775807) : Contract prg 62 [wordsPV a, wordsPV b] (vB (decide (a = b))) := by
  by_cases h : a.length = b.length
  · have loop : ∀ (j t : Nat), a.length - t = j → t ≤ a.length → a.take t = b.take t → linkworkbase_Words.Loop1 a b t (vB (decide (a = b))) := by
      intro j
      induction j with
      | zero =>
        intro t hj ht he
        rw [List.take_of_length_le (by omega), List.take_of_length_le (by omega)] at he
        rw [decide_eq_true he]
        exact linkworkbase_Words.l12 a b t (by omega)
      | succ j ih =>
        intro t hj ht he
        obtain ⟨v, hv⟩ : ∃ v, a[t]? = some v := ⟨_, List.getElem?_eq_getElem (by omega)⟩
        obtain ⟨w, hw⟩ : ∃ w, b[t]? = some w := ⟨_, List.getElem?_eq_getElem (by omega)⟩
        by_cases h0 : v.toNat = w.toNat
        · exact linkworkbase_Words.l11 a b t v w (by omega) hv hw h0 (by omega) (ih (t + 1) (by omega) (by omega) (by rw [List.take_add_one, List.take_add_one, he, hv, hw, w_eq h0]))
        · have hne : a ≠ b := by
            intro e; subst e
            rw [hv] at hw; injection hw with hw
            exact h0 (by rw [hw])
          rw [decide_eq_false hne]
          exact linkworkbase_Words.l10 a b t v w (by omega) hv hw h0
    exact linkworkbase_Words.e1 a b h (loop _ 0 rfl (by omega) rfl)
  · rw [decide_eq_false (fun e => h (by rw [e]))]
    exact linkworkbase_Words.e0 a b h
theorem Rat (a b : ARat) (h1 : a.num.length < 9223372036854775807) (h2 : a.den.length < 9223372036854775807) : Contract prg 17 [a.pv, b.pv] (vB (eqR a b)) := by
  unfold eqR
  by_cases hn : a.neg = b.neg
  · rw [decide_eq_true hn, Bool.true_and]
    have w1 := Words a.num b.num h1
    have w2 := Words a.den b.den h2
    cases hw : decide (a.num = b.num) with
    | true => rw [Bool.true_and]; rw [hw] at w1; exact linkworkbase_Rat.e0 a b _ _ hn w1 rfl w2
    | false => rw [Bool.false_and]; rw [hw] at w1; exact linkworkbase_Rat.e1 a b _ hn w1 rfl
  · rw [decide_eq_false hn, Bool.false_and]
    exact linkworkbase_Rat.e2 a b hn
theorem Rats (p q : List ARat) (hl : p.length < 9223372036854775807) (hf : ∀ a ∈ p, a.num.length < 9223372036854775807 ∧ a.den.length < 9223372036854775807) : Contract prg 49 [polyPV p, polyPV q] (vB (eqRs p q)) := by
  by_cases h : p.length = q.length
  · have loop : ∀ (j t : Nat), p.length - t = j → t ≤ p.length → p.take t = q.take t → linkworkbase_Rats.Loop1 p q t (vB (eqRs p q)) := by
      intro j
      induction j with
      | zero =>
        intro t hj ht he
        rw [List.take_of_length_le (by omega), List.take_of_length_le (by omega)] at he
        rw [eqRs_iff.2 he]
        exact linkworkbase_Rats.l12 p q t (by omega)
      | succ j ih =>
        intro t hj ht he
        obtain ⟨v, hv⟩ : ∃ v, p[t]? = some v := ⟨_, List.getElem?_eq_getElem (by omega)⟩
        obtain ⟨w, hw⟩ : ∃ w, q[t]? = some w := ⟨_, List.getElem?_eq_getElem (by omega)⟩
        have hvf := hf v (List.mem_of_getElem? hv)
        have hr := Rat v w hvf.1 hvf.2
        cases h0 : eqR v w with
        | true =>
          rw [h0] at hr
          exact linkworkbase_Rats.l11 p q t v w _ (by omega) hv hw hr rfl (by omega) (ih (t + 1) (by omega) (by omega) (by rw [List.take_add_one, List.take_add_one, he, hv, hw, eqR_iff.1 h0]))
        | false =>
          have hne : p ≠ q := by
            intro e; subst e
            rw [hv] at hw; injection hw with hw
            rw [hw, eqR_self] at h0; cases h0
          rw [eqRs_ne hne]
          rw [h0] at hr
          exact linkworkbase_Rats.l10 p q t v w _ (by omega) hv hw hr rfl
    exact linkworkbase_Rats.e1 p q h (loop _ 0 rfl (by omega) rfl)
  · rw [eqRs_ne (fun e => h (by rw [e]))]
    exact linkworkbase_Rats.e0 p q h
end CBa
end Go.Proofs.YtcgbmnkgmepikaaGreat.Sym
namespace Go.Proofs.YtcgbmnkgmepikaaGreat.Sym
open Go Path CInt
set_option linter.unusedVariables false
def badB (p : Option Rat) (v : Rat) : Bool := match p with
  | none => decide (v ≠ 0)
  | some q => decide (v ≤ q)
def outB (b : ARat) : Bool := !b.valid || (decide (b.val < 0) || decide (1 ≤ b.val))
def chkB : Option Rat → List ARat → Int
  | _, [] => 0
  | p, b :: r => bif outB b then 3 else bif badB p b.val then 12 else chkB (some b.val) r
def chkP : List (List ARat) → Int
  | [] => 0
  | p :: r => bif decide (chk p ≠ 0) then chk p else bif Nat.blt 9 p.length then 4 else chkP r
def chkR (p : Option Rat) (bs : List ARat) (ps : List (List ARat)) : Int := bif decide (chkB p bs ≠ 0) then chkB p bs else chkP ps
def chkLaw (l : ALaw) : Int := if l.breaks.length = 0 ∨ l.breaks.length ≠ l.pieces.length then 10 else if 16 < l.breaks.length then 4 else chkR none l.breaks l.pieces
abbrev FitW (k : Nat) (l : ALaw) : Prop := FitP k l.breaks ∧ ∀ p ∈ l.pieces, FitP k p
theorem chkR_stop {p : Option Rat} {bs : List ARat} {ps : List (List ARat)} {n : Int} (h : chkB p bs = n) (h0 : n ≠ 0) : chkR p bs ps = n := by
  unfold chkR; rw [h, decide_eq_true h0]; rfl
theorem chkR_nil {p : Option Rat} {ps : List (List ARat)} : chkR p [] ps = chkP ps := rfl
theorem chkR_cons {p : Option Rat} {b : ARat} {r : List ARat} {ps : List (List ARat)} (h1 : outB b = false) (h2 : badB p b.val = false) : chkR p (b :: r) ps = chkR (some b.val) r ps := by
  unfold chkR
  rw [show chkB p (b :: r) = chkB (some b.val) r from by rw [chkB, h1, h2]; rfl]
theorem chkB_out {p : Option Rat} {b : ARat} {r : List ARat} (h1 : outB b = true) : chkB p (b :: r) = 3 := by rw [chkB, h1]; rfl
theorem chkB_bad {p : Option Rat} {b : ARat} {r : List ARat} (h1 : outB b = false) (h2 : badB p b.val = true) : chkB p (b :: r) = 12 := by rw [chkB, h1, h2]; rfl
theorem outB_inv {b : ARat} (h : b.valid = false) : outB b = true := by unfold outB; rw [h]; rfl
theorem outB_lt {b : ARat} (h : b.val < 0) : outB b = true := by unfold outB; rw [decide_eq_true h]; simp
theorem outB_ge {b : ARat} (h : 1 ≤ b.val) : outB b = true := by unfold outB; rw [decide_eq_true h]; simp
theorem outB_no {b : ARat} (h : b.valid = true) (h1 : ¬ b.val < 0) (h2 : ¬ 1 ≤ b.val) : outB b = false := by
  unfold outB; rw [h, decide_eq_false h1, decide_eq_false h2]; rfl
theorem outB_parts {b : ARat} (h : outB b = false) : b.valid = true ∧ 0 ≤ b.val ∧ b.val < 1 := by
  unfold outB at h
  rw [Bool.or_eq_false_iff, Bool.or_eq_false_iff] at h
  obtain ⟨h1, h2, h3⟩ := h
  have h2 := of_decide_eq_false h2
  have h3 := of_decide_eq_false h3
  exact ⟨by simpa using h1, by grind, by grind⟩
theorem chkB_asc : ∀ (bs : List ARat) (p : Option Rat), chkB p bs = 0 → bs.all ARat.valid = true ∧ (∀ b ∈ bs, 0 ≤ b.val ∧ b.val < 1) ∧ (vals bs).Pairwise (· < ·) ∧ (∀ q, p = some q → ∀ b ∈ bs, q < b.val)
  | [], p, _ => ⟨rfl, (fun b h => by cases h), List.Pairwise.nil, (fun q _ b h => by cases h)⟩
  | b :: r, p, h => by
    cases h1 : outB b with
    | true => rw [chkB_out h1] at h; cases h
    | false =>
      cases h2 : badB p b.val with
      | true => rw [chkB_bad h1 h2] at h; cases h
      | false =>
        rw [show chkB p (b :: r) = chkB (some b.val) r from by rw [chkB, h1, h2]; rfl] at h
        obtain ⟨g1, g2, g3, g4⟩ := chkB_asc r _ h
        obtain ⟨o1, o2, o3⟩ := outB_parts h1
        refine ⟨by rw [List.all_cons, o1, g1]; rfl, ?_, ?_, ?_⟩
        · intro c hc
          rcases List.mem_cons.1 hc with e | hc
          · rw [e]; exact ⟨o2, o3⟩
          · exact g2 c hc
        · refine List.Pairwise.cons ?_ g3
          intro c hc
          obtain ⟨a, ha, rfl⟩ := List.mem_map.1 hc
          exact g4 _ rfl a ha
        · intro q hq c hc
          subst hq
          have hb : q < b.val := by
            have := of_decide_eq_false h2
            grind
          rcases List.mem_cons.1 hc with e | hc
          · rw [e]; exact hb
          · have := g4 _ rfl c hc
            grind
theorem chkP_all : ∀ (ps : List (List ARat)), chkP ps = 0 → ∀ p ∈ ps, chk p = 0 ∧ p.length ≤ 9
  | [], _ => fun p h => by cases h
  | a :: r, h => by
    rw [chkP] at h
    by_cases h1 : chk a = 0
    · rw [decide_eq_false (by simpa using h1), cond_false] at h
      cases h2 : Nat.blt 9 a.length with
      | true => rw [h2] at h; cases h
      | false =>
        rw [h2, cond_false] at h
        have h3 : ¬ 9 < a.length := by
          intro h3
          have : Nat.blt 9 a.length = true := by simpa [Nat.blt_eq] using h3
          rw [h2] at this; cases this
        intro p hp
        rcases List.mem_cons.1 hp with e | hp
        · rw [e]; exact ⟨h1, by omega⟩
        · exact chkP_all r h p hp
    · rw [decide_eq_true h1, cond_true] at h
      exact absurd h h1
structure Good (l : ALaw) : Prop where
  n0 : l.breaks.length ≠ 0
  len : l.breaks.length = l.pieces.length
  le : l.breaks.length ≤ 16
  valid : l.breaks.all ARat.valid = true
  unit : ∀ b ∈ l.breaks, 0 ≤ b.val ∧ b.val < 1
  asc : (vals l.breaks).Pairwise (· < ·)
  first : ∀ v, l.breaks[0]? = some v → v.val = 0
  ps : ∀ p ∈ l.pieces, chk p = 0 ∧ p.length ≤ 9
theorem good_of {l : ALaw} (h : chkLaw l = 0) : Good l := by
  unfold chkLaw at h
  split at h
  · cases h
  · split at h
    · cases h
    · rename_i h1 h2
      unfold chkR at h
      by_cases hb : chkB none l.breaks = 0
      · rw [hb] at h
        have h : chkP l.pieces = 0 := h
        obtain ⟨g1, g2, g3, g4⟩ := chkB_asc _ _ hb
        refine ⟨by omega, by omega, by omega, g1, g2, g3, ?_, chkP_all _ h⟩
        intro v hv
        cases hl : l.breaks with
        | nil => rw [hl] at hv; cases hv
        | cons b r =>
          rw [hl] at hv hb
          have e : b = v := by simpa using hv
          subst e
          cases o : outB b with
          | true => rw [chkB_out o] at hb; cases hb
          | false =>
            cases o2 : badB none b.val with
            | true => rw [chkB_bad o o2] at hb; cases hb
            | false => have := of_decide_eq_false o2; simpa using this
      · rw [decide_eq_true hb, cond_true] at h
        exact absurd h hb
def frac (x : Rat) : Rat := x - (x.floor : Rat)
theorem ht_frac {x : Rat} {k : Nat} (h : ht x ≤ k) : ht (frac x) ≤ 2 * k + 2 := by
  have h1 := ht_sub x (x.floor : Rat)
  have h2 := ht_int x.floor
  have h3 := wl_floor x
  unfold frac
  omega
def pieceF : List Rat → Rat → Nat
  | [], _ => 0
  | b :: r, x => bif decide (b ≤ x) then pieceF r x + 1 else 0
def pieceL (bs : List Rat) (x : Rat) : Nat := pieceF (bs.drop 1) x
theorem pieceF_eq : ∀ (r : List Rat) (x : Rat) (i : Nat), (∀ j b, j < i → r[j]? = some b → b ≤ x) → (∀ b, r[i]? = some b → x < b) → i ≤ r.length → pieceF r x = i
  | [], x, i, _, _, h => by have : i = 0 := by simpa using h
                            subst this; rfl
  | b :: r, x, 0, _, h, _ => by
    have := h b rfl
    rw [pieceF, decide_eq_false (by grind)]; rfl
  | b :: r, x, i + 1, h1, h2, h3 => by
    have := h1 0 b (by omega) rfl
    rw [pieceF, decide_eq_true this, cond_true, pieceF_eq r x i (fun j c hj hc => h1 (j + 1) c (by omega) hc) (fun c hc => h2 c hc) (by simpa using h3)]
theorem pieceF_le : ∀ (r : List Rat) (x : Rat), pieceF r x ≤ r.length
  | [], _ => by simp [pieceF]
  | b :: r, x => by
    rw [pieceF]
    have := pieceF_le r x
    cases decide (b ≤ x) <;> simp <;> omega
theorem pieceL_lt {bs : List Rat} (h : bs.length ≠ 0) (x : Rat) : pieceL bs x < bs.length := by
  have := pieceF_le (bs.drop 1) x
  unfold pieceL
  rw [List.length_drop] at this
  omega
def atW (l : ALaw) (x : Rat) : Rat := evalL (vals (l.pieces.getD (pieceL (vals l.breaks) (frac x)) [])) (frac x - (l.breaks.getD (pieceL (vals l.breaks) (frac x)) ⟨false, [], []⟩).val)
def endW (l : ALaw) (i : Nat) : Rat := match l.breaks[i + 1]? with
  | some v => v.val
  | none => (1 : Int)
def deriveW (l : ALaw) : ALaw := ⟨(vals l.breaks).map mkR, l.pieces.map (fun p => (deriveL (vals p)).map mkR)⟩
def riseG (s u : Rat) : Rat → List Int → List Rat
  | _, [] => []
  | w, n :: r => s * ((n : Rat) * w) :: riseG s u (w * u) r
def riseN (degree : Int) : List Int := if degree = 1 then [0, 1] else if degree = 3 then [0, 0, 3, -2] else [0, 0, 0, 10, -15, 6]
def riseL (len x y : Rat) (degree : Int) : List Rat := trimL (x :: (riseG (y - x) (1 / len) (1 / len) ((riseN degree).drop 1)))
def riseC (len x y : ARat) (degree : Int) : Int := bif !len.valid || (decide (len.val ≤ 0) || (!x.valid || !y.valid)) then 3 else if degree = 1 ∨ degree = 3 ∨ degree = 5 then 0 else 7
end Go.Proofs.YtcgbmnkgmepikaaGreat.Sym
namespace Go.Proofs.YtcgbmnkgmepikaaGreat.Sym.Path
open Go
set_option maxRecDepth 20000
set_option linter.unusedVariables false
namespace law_Rise
@[reducible] noncomputable def fn : Func := Tryz.f12
noncomputable def atK1 : List Itm := focus [0, 2, 0, 0, 2, 1, 2, 0, 2, 0, 0, 2, 0, 0, 2, 0, 2, 2, 0, 2, 0, 2, 0, 0, 2, 1, 2, 0, 2, 0, 2, 0, 0, 2, 0, 0] [.code (bodyOf fn)]
def inv1 (site_81 : List ARat) (site_42 : List Int) (t_63 t_64 : Nat) (fromV sub div site_14 : ARat) : St := ⟨[(5, (.ptr 5 0)), (11, (.ptr 11 0)), (12, (.ptr 12 0)), (14, (.ptr 14 0)), (15, (.row 81 0 site_81.length 3)), (62, (.row 42 0 site_42.length 1)), (63, (eI (t_63 : Int))), (64, (eI (t_64 : Int)))], [(5, (.lit [(eB fromV.neg), (.pv (wordsPV fromV.num)), (.pv (wordsPV fromV.den))])), (11, (.lit [(eB sub.neg), (.pv (wordsPV sub.num)), (.pv (wordsPV sub.den))])), (12, (.lit [(eB div.neg), (.pv (wordsPV div.num)), (.pv (wordsPV div.den))])), (14, (.lit [(eB site_14.neg), (.pv (wordsPV site_14.num)), (.pv (wordsPV site_14.den))])), (42, (.pure ((site_42 : List Int).map intCell).flatten)), (81, (.pure ((site_81 : List ARat).map ARat.cells).flatten))]⟩
@[reducible] noncomputable def Loop1 (site_81 : List ARat) (site_42 : List Int) (t_63 t_64 : Nat) (fromV sub div site_14 : ARat) (r : PV) : Prop := L prg fn atK1 (inv1 site_81 site_42 t_63 t_64 fromV sub div site_14) r
theorem e4 (length fromV toV : ARat) (degree : Int) (val : Bool) (sig : Int) (val1 val2 : Bool) (sub one div one1 : ARat) {r : PV} (h1 : Contract prg 50 [length.pv] (vB val)) (h2 : val = true) (h3 : Contract prg 39 [length.pv] (vI sig)) (h4 : 0 < sig) (h5 : Contract prg 50 [fromV.pv] (vB val1)) (h6 : val1 = true) (h7 : Contract prg 50 [toV.pv] (vB val2)) (h8 : val2 = true) (h9 : degree = 1) (h10 : Contract prg 51 [toV.pv, fromV.pv] sub.pv) (h11 : Contract prg 53 [] one.pv) (h12 : Contract prg 52 [one.pv, length.pv] (.tup [div.pv, .nilI])) (h13 : Contract prg 53 [] one1.pv) (hL : Loop1 [] [0, 1] 2 0 fromV sub div one1 r) : Contract prg 12 [length.pv, fromV.pv, toV.pv, (vI degree)] r :=
  Contract.ofL Tryz.func12 (by kernel_rfl) (L.go mixed tabOk (n := 168) (ns := [1, 1, 1, 1, 1, 1, 1, 1, 1, 1, 1, 1, 1, 1, 1, 1, 1, 1, 1, 1, 1, 1]) (tr := [.reg [], .reg [.none, (.pv (vB val)), .none, .none, .none, (.pv (vI sig)), .none, (.dec false), .none, .none, (.pv (vB val1)), .none, (.dec false), .none, .none, (.pv (vB val2)), .none, (.dec false)], .dec false, .reg [], .reg [], .reg [], .dec true, .reg [], .reg [.none, .none, (.pv sub.pv)], dr 8 1 [(.pv one.pv), .none, (.pv (.tup [div.pv, .nilI]))], .reg [], .auto, .reg [(.pv one1.pv)], .reg [.nil], .adopt 15 81 3, .reg [], .keep [5, 11, 12, 14, 15, 62, 63, 64], .drop [6, 4], .ord [5, 11, 12, 14, 42, 81]]) (cj h1 (cj (bnot_f h2) (cj (bnot_f h2) (cj h3 (cj (bnot_f h2) (cj (bnot_f h2) (cj (dle_f h4) (cj (dle_f h4) (cj h5 (cj (dle_f h4) (cj (dle_f h4) (cj (bnot_f h6) (cj (bnot_f h6) (cj h7 (cj (bnot_f h6) (cj (bnot_f h6) (cj (bnot_f h8) (cj (deq_t h9) (cj h10 (cj h11 (cj h12 (cj h13 True.intro)))))))))))))))))))))) (by kernel_rfl) hL)
theorem e6 (length fromV toV : ARat) (degree : Int) (val : Bool) (sig : Int) (val1 val2 : Bool) (sub one div one1 : ARat) {r : PV} (h1 : Contract prg 50 [length.pv] (vB val)) (h2 : val = true) (h3 : Contract prg 39 [length.pv] (vI sig)) (h4 : 0 < sig) (h5 : Contract prg 50 [fromV.pv] (vB val1)) (h6 : val1 = true) (h7 : Contract prg 50 [toV.pv] (vB val2)) (h8 : val2 = true) (h9 : degree ≠ 1) (h10 : degree = 3) (h11 : Contract prg 51 [toV.pv, fromV.pv] sub.pv) (h12 : Contract prg 53 [] one.pv) (h13 : Contract prg 52 [one.pv, length.pv] (.tup [div.pv, .nilI])) (h14 : Contract prg 53 [] one1.pv) (hL : Loop1 [] [0, 0, 3, (-2)] 4 0 fromV sub div one1 r) : Contract prg 12 [length.pv, fromV.pv, toV.pv, (vI degree)] r :=
  Contract.ofL Tryz.func12 (by kernel_rfl) (L.go mixed tabOk (n := 177) (ns := [1, 1, 1, 1, 1, 1, 1, 1, 1, 1, 1, 1, 1, 1, 1, 1, 1, 1, 1, 1, 1, 1, 1]) (tr := [.reg [], .reg [.none, (.pv (vB val)), .none, .none, .none, (.pv (vI sig)), .none, (.dec false), .none, .none, (.pv (vB val1)), .none, (.dec false), .none, .none, (.pv (vB val2)), .none, (.dec false)], .dec false, .reg [], .reg [], .reg [], .dec false, .reg [], .dec true, .reg [], .reg [.none, .none, (.pv sub.pv)], dr 8 1 [(.pv one.pv), .none, (.pv (.tup [div.pv, .nilI]))], .reg [], .auto, .reg [(.pv one1.pv)], .reg [.nil], .adopt 15 81 3, .reg [], .keep [5, 11, 12, 14, 15, 62, 63, 64], .drop [6, 4], .ren 45 42, .ord [5, 11, 12, 14, 42, 81]]) (cj h1 (cj (bnot_f h2) (cj (bnot_f h2) (cj h3 (cj (bnot_f h2) (cj (bnot_f h2) (cj (dle_f h4) (cj (dle_f h4) (cj h5 (cj (dle_f h4) (cj (dle_f h4) (cj (bnot_f h6) (cj (bnot_f h6) (cj h7 (cj (bnot_f h6) (cj (bnot_f h6) (cj (bnot_f h8) (cj (deq_f h9) (cj (deq_t h10) (cj h11 (cj h12 (cj h13 (cj h14 True.intro))))))))))))))))))))))) (by kernel_rfl) hL)
theorem e8 (length fromV toV : ARat) (degree : Int) (val : Bool) (sig : Int) (val1 val2 : Bool) (sub one div one1 : ARat) {r : PV} (h1 : Contract prg 50 [length.pv] (vB val)) (h2 : val = true) (h3 : Contract prg 39 [length.pv] (vI sig)) (h4 : 0 < sig) (h5 : Contract prg 50 [fromV.pv] (vB val1)) (h6 : val1 = true) (h7 : Contract prg 50 [toV.pv] (vB val2)) (h8 : val2 = true) (h9 : degree ≠ 1) (h10 : degree ≠ 3) (h11 : degree = 5) (h12 : Contract prg 51 [toV.pv, fromV.pv] sub.pv) (h13 : Contract prg 53 [] one.pv) (h14 : Contract prg 52 [one.pv, length.pv] (.tup [div.pv, .nilI])) (h15 : Contract prg 53 [] one1.pv) (hL : Loop1 [] [0, 0, 0, 10, (-15), 6] 6 0 fromV sub div one1 r) : Contract prg 12 [length.pv, fromV.pv, toV.pv, (vI degree)] r :=
  Contract.ofL Tryz.func12 (by kernel_rfl) (L.go mixed tabOk (n := 186) (ns := [1, 1, 1, 1, 1, 1, 1, 1, 1, 1, 1, 1, 1, 1, 1, 1, 1, 1, 1, 1, 1, 1, 1, 1]) (tr := [.reg [], .reg [.none, (.pv (vB val)), .none, .none, .none, (.pv (vI sig)), .none, (.dec false), .none, .none, (.pv (vB val1)), .none, (.dec false), .none, .none, (.pv (vB val2)), .none, (.dec false)], .dec false, .reg [], .reg [], .reg [], .dec false, .reg [], .dec false, .reg [], .dec true, .reg [], .reg [.none, .none, (.pv sub.pv)], dr 8 1 [(.pv one.pv), .none, (.pv (.tup [div.pv, .nilI]))], .reg [], .auto, .reg [(.pv one1.pv)], .reg [.nil], .adopt 15 81 3, .reg [], .keep [5, 11, 12, 14, 15, 62, 63, 64], .drop [6, 4], .ren 48 42, .ord [5, 11, 12, 14, 42, 81]]) (cj h1 (cj (bnot_f h2) (cj (bnot_f h2) (cj h3 (cj (bnot_f h2) (cj (bnot_f h2) (cj (dle_f h4) (cj (dle_f h4) (cj h5 (cj (dle_f h4) (cj (dle_f h4) (cj (bnot_f h6) (cj (bnot_f h6) (cj h7 (cj (bnot_f h6) (cj (bnot_f h6) (cj (bnot_f h8) (cj (deq_f h9) (cj (deq_f h10) (cj (deq_t h11) (cj h12 (cj h13 (cj h14 (cj h15 True.intro)))))))))))))))))))))))) (by kernel_rfl) hL)
theorem l10 (site_81 : List ARat) (site_42 : List Int) (t_63 t_64 : Nat) (fromV sub div site_14 : ARat) (v : Int) (of mul mul1 mul2 : ARat) {r : PV} (h1 : t_64 < t_63) (h2 : t_64 < site_42.length) (h3 : site_42[t_64]? = some v) (h4 : Contract prg 33 [(vI v)] of.pv) (h5 : Contract prg 54 [of.pv, site_14.pv] mul.pv) (h6 : Contract prg 54 [sub.pv, mul.pv] mul1.pv) (h7 : t_64 = 0) (h8 : ((site_81 ++ [fromV]) : List ARat).length * 56 ≤ 140737488355328) (h9 : Contract prg 54 [site_14.pv, div.pv] mul2.pv) (h10 : (t_64 + 1) < 9223372036854775808) (hL : Loop1 (site_81 ++ [fromV]) site_42 t_63 (t_64 + 1) fromV sub div mul2 r) : Loop1 site_81 site_42 t_63 t_64 fromV sub div site_14 r :=
  L.go mixed tabOk (n := 234) (ns := [1, 2, 1, 1, 1, 1, 1, 6, 1, 1]) (tr := [.auto, .reg [], .dec true, .reg [.none, (.nat t_64), (.ev (.pv (vI v)))], dr 7 1 [.none, .none, (.pv of.pv), .none, (.pv mul.pv), (.pv mul1.pv)], .reg [], .dec true, .reg [], .reg [.none, .none, .none, (.app ((site_81 ++ [fromV]) : List ARat).length (((site_81 ++ [fromV]) : List ARat).map ARat.cells).flatten)], .reg [.none, .none, (.pv mul2.pv)], .reg [(iI (((t_64 + 1) : Nat) : Int))], .keep [5, 11, 12, 14, 15, 62, 63, 64], .drop [80, 18], .ord [5, 11, 12, 14, 42, 81]]) (cj (dltN_t h1) (cj (cj (Eq.refl (((t_64 : Nat) : Int) : Int)) h2) (cj (o_get (enc := intCell) (f := fun a => (vI a)) (fun _ => rfl) h3) (cj h4 (cj h5 (cj h6 (cj (deqN_t h7) (cj (o_appR sz_ARat (site_81 : List ARat) ([fromV] : List ARat) 56 (Eq.refl (site_81 : List ARat).length) (Eq.refl ([fromV] : List ARat).length) h8 rfl) (cj h9 (cj (bs_addN h10) True.intro)))))))))) (by kernel_rfl) hL
theorem l11 (site_81 : List ARat) (site_42 : List Int) (t_63 t_64 : Nat) (fromV sub div site_14 : ARat) (v : Int) (of mul mul1 mul2 : ARat) {r : PV} (h1 : t_64 < t_63) (h2 : t_64 < site_42.length) (h3 : site_42[t_64]? = some v) (h4 : Contract prg 33 [(vI v)] of.pv) (h5 : Contract prg 54 [of.pv, site_14.pv] mul.pv) (h6 : Contract prg 54 [sub.pv, mul.pv] mul1.pv) (h7 : t_64 ≠ 0) (h8 : ((site_81 ++ [mul1]) : List ARat).length * 56 ≤ 140737488355328) (h9 : Contract prg 54 [site_14.pv, div.pv] mul2.pv) (h10 : (t_64 + 1) < 9223372036854775808) (hL : Loop1 (site_81 ++ [mul1]) site_42 t_63 (t_64 + 1) fromV sub div mul2 r) : Loop1 site_81 site_42 t_63 t_64 fromV sub div site_14 r :=
  L.go mixed tabOk (n := 234) (ns := [1, 2, 1, 1, 1, 1, 1, 6, 1, 1]) (tr := [.auto, .reg [], .dec true, .reg [.none, (.nat t_64), (.ev (.pv (vI v)))], dr 7 1 [.none, .none, (.pv of.pv), .none, (.pv mul.pv), (.pv mul1.pv)], .reg [], .dec false, .reg [.none, .none, .none, (.app ((site_81 ++ [mul1]) : List ARat).length (((site_81 ++ [mul1]) : List ARat).map ARat.cells).flatten)], .reg [.none, .none, (.pv mul2.pv)], .reg [(iI (((t_64 + 1) : Nat) : Int))], .keep [5, 11, 12, 14, 15, 62, 63, 64], .drop [80, 18], .ord [5, 11, 12, 14, 42, 81]]) (cj (dltN_t h1) (cj (cj (Eq.refl (((t_64 : Nat) : Int) : Int)) h2) (cj (o_get (enc := intCell) (f := fun a => (vI a)) (fun _ => rfl) h3) (cj h4 (cj h5 (cj h6 (cj (deqN_f h7) (cj (o_appR sz_ARat (site_81 : List ARat) ([mul1] : List ARat) 56 (Eq.refl (site_81 : List ARat).length) (Eq.refl ([mul1] : List ARat).length) h8 rfl) (cj h9 (cj (bs_addN h10) True.intro)))))))))) (by kernel_rfl) hL
theorem l12 (site_81 : List ARat) (site_42 : List Int) (t_63 t_64 : Nat) (fromV sub div site_14 : ARat) (tri : List ARat) (h1 : t_63 ≤ t_64) (h2 : Contract prg 55 [(polyPV site_81)] (polyPV tri)) : Loop1 site_81 site_42 t_63 t_64 fromV sub div site_14 (.tup [(polyPV tri), .nilI]) :=
  L.done mixed tabOk (n := 201) (ns := [1, 3, 1]) (tr := [.auto, .reg [], .dec false, .frzT 15 ((site_81 : List ARat).map ARat.cells), .reg [.none, (.pv (polyPV tri))]]) (cj (dltN_f h1) (cj (o_frz sz_ARat (site_81 : List ARat) (Eq.refl (site_81 : List ARat).length)) (cj h2 True.intro))) (by kernel_rfl)
end law_Rise
namespace law_At
theorem e1 (l : ALaw) (x : ARat) (val : Bool) (wra : ARat) (pie : Int) (k : Nat) (v : List ARat) (k1 : Nat) (v1 sub eva : ARat) (eva1 : Option Int) (h1 : Contract prg 24 [l.pv] .nilI) (h2 : Contract prg 50 [x.pv] (vB val)) (h3 : val = true) (h4 : Contract prg 66 [x.pv] (.tup [wra.pv, .nilI])) (h5 : Contract prg 67 [l.pv, wra.pv] (vI pie)) (h6 : pie = (k : Int)) (h7 : l.pieces[k]? = some v) (h8 : pie = (k1 : Int)) (h9 : l.breaks[k1]? = some v1) (h10 : Contract prg 51 [wra.pv, v1.pv] sub.pv) (h11 : Contract prg 16 [(polyPV v), sub.pv] (.tup [eva.pv, (errPV eva1)])) : Contract prg 21 [l.pv, x.pv] (.tup [eva.pv, (errPV eva1)]) :=
  Contract.ofL Tryz.func21 (by kernel_rfl) (L.done mixed tabOk (n := 135) (ns := [1, 1, 1, 1, 1, 3, 3, 1, 1]) (tr := [.reg [], .reg [.none, (.pv .nilI)], .reg [], .auto, .reg [.none, (.pv (vB val))], .dec false, .reg [.none, (.pv (.tup [wra.pv, .nilI]))], .reg [], .auto, .reg [.none, .none, (.pv (vI pie))], dr 15 2 [.none, .none, .none, (.row k ((lcell ARat.cells) v)), .none, .none, .none, .none, .none, (.row k1 (ARat.cells v1)), .none, (.pv sub.pv), (.pv (.tup [eva.pv, (errPV eva1)]))]]) (cj h1 (cj h2 (cj (bnot_f h3) (cj h4 (cj h5 (cj (o_at (lcell ARat.cells) h6 h7) (cj (o_at ARat.cells h8 h9) (cj h10 (cj h11 True.intro))))))))) (by kernel_rfl))
end law_At
namespace law_Derive
@[reducible] noncomputable def fn : Func := Tryz.f22
noncomputable def atK1 : List Itm := focus [0, 2, 0, 0, 2, 0, 2, 1, 2, 0, 2, 0, 0, 2, 0, 0] [.code (bodyOf fn)]
def inv1 (l : ALaw) (t_19 : Nat) (site_43 : List ARat) (site_49 : List (List ARat)) : St := ⟨[(1, (.ptr 1 0)), (2, (.ptr 2 0)), (5, (.ptr 5 0)), (17, (.pv (lpv (lcell ARat.cells) l.pieces))), (18, (eI (l.pieces.length : Int))), (19, (eI (t_19 : Int)))], [(1, (.lit [(.pv (polyPV l.breaks)), (.pv (lpv (lcell ARat.cells) l.pieces))])), (2, (.lit [(.pv (.list [])), (.pv (.list []))])), (5, (.lit [(.row 43 0 site_43.length 3), (.row 49 0 site_49.length 1)])), (43, (.pure ((site_43 : List ARat).map ARat.cells).flatten)), (49, (.pure ((site_49 : List (List ARat)).map (lcell ARat.cells)).flatten))]⟩
@[reducible] noncomputable def Loop1 (l : ALaw) (t_19 : Nat) (site_43 : List ARat) (site_49 : List (List ARat)) (r : PV) : Prop := L prg fn atK1 (inv1 l t_19 site_43 site_49) r
theorem e0 (l : ALaw) {r : PV} (h1 : Contract prg 24 [l.pv] .nilI) (hL : Loop1 l 0 [] [] r) : Contract prg 22 [l.pv] r :=
  Contract.ofL Tryz.func22 (by kernel_rfl) (L.go mixed tabOk (n := 108) (ns := [1, 1]) (tr := [.reg [], .reg [.none, (.pv .nilI)], .reg [], .auto, .reg [.nil], .adoptC 5 0 43 3, .adoptC 5 1 49 1, .reg [.none, .none, (iI (l.pieces.length : Int))], .keep [1, 2, 5, 17, 18, 19], .ord [1, 2, 5, 43, 49]]) (cj h1 (cj (o_len (lcell ARat.cells) l.pieces) True.intro)) (by kernel_rfl) hL)
theorem l10 (l : ALaw) (t_19 : Nat) (site_43 : List ARat) (site_49 : List (List ARat)) (v der : List ARat) (v1 add : ARat) {r : PV} (h1 : t_19 < l.pieces.length) (h2 : l.pieces[t_19]? = some v) (h3 : Contract prg 18 [(polyPV v)] (.tup [(polyPV der), .nilI])) (h4 : l.breaks[t_19]? = some v1) (h5 : Contract prg 32 [v1.pv, (⟨false, [], []⟩ : ARat).pv] add.pv) (h6 : ((site_43 ++ [add]) : List ARat).length * 56 ≤ 140737488355328) (h7 : ((site_49 ++ [der]) : List (List ARat)).length * 24 ≤ 140737488355328) (h8 : (t_19 + 1) < 9223372036854775808) (hL : Loop1 l (t_19 + 1) (site_43 ++ [add]) (site_49 ++ [der]) r) : Loop1 l t_19 site_43 site_49 r :=
  L.go mixed tabOk (n := 174) (ns := [1, 3, 1, 3, 1, 6, 6, 1]) (tr := [.auto, .reg [], .dec true, .reg [.none, (.row t_19 ((lcell ARat.cells) v))], .reg [.none, (.pv (.tup [(polyPV der), .nilI]))], .reg [], .auto, dr 10 3 [.none, .none, .none, .none, .none, (.row t_19 (ARat.cells v1)), .none, .none, (.pv add.pv), .none, (.app ((site_43 ++ [add]) : List ARat).length (((site_43 ++ [add]) : List ARat).map ARat.cells).flatten)], .reg [.none, .none, .none, .none, (.app ((site_49 ++ [der]) : List (List ARat)).length (((site_49 ++ [der]) : List (List ARat)).map (lcell ARat.cells)).flatten)], .reg [(iI (((t_19 + 1) : Nat) : Int))], .keep [1, 2, 5, 17, 18, 19], .drop [48, 42], .ord [1, 2, 5, 43, 49]]) (cj (dltN_t h1) (cj (o_at (lcell ARat.cells) (Eq.refl (((t_19 : Nat) : Int) : Int)) h2) (cj h3 (cj (o_at ARat.cells (Eq.refl (((t_19 : Nat) : Int) : Int)) h4) (cj h5 (cj (o_appR sz_ARat (site_43 : List ARat) ([add] : List ARat) 56 (Eq.refl (site_43 : List ARat).length) (Eq.refl ([add] : List ARat).length) h6 rfl) (cj (o_appR (sz_l ARat.cells) (site_49 : List (List ARat)) ([der] : List (List ARat)) 24 (Eq.refl (site_49 : List (List ARat)).length) (Eq.refl ([der] : List (List ARat)).length) h7 rfl) (cj (bs_addN h8) True.intro)))))))) (by kernel_rfl) hL
theorem l12 (l : ALaw) (t_19 : Nat) (site_43 : List ARat) (site_49 : List (List ARat)) (h1 : l.pieces.length ≤ t_19) : Loop1 l t_19 site_43 site_49 (.tup [(⟨site_43, site_49⟩ : ALaw).pv, .nilI]) :=
  L.done mixed tabOk (n := 141) (ns := [1, 3, 3]) (tr := [.auto, .reg [], .dec false, .frzC 5 0 ((site_43 : List ARat).map ARat.cells), .frzC 5 1 ((site_49 : List (List ARat)).map (lcell ARat.cells)), .reg []]) (cj (dltN_f h1) (cj (o_frz sz_ARat (site_43 : List ARat) (Eq.refl (site_43 : List ARat).length)) (cj (o_frz (sz_l ARat.cells) (site_49 : List (List ARat)) (Eq.refl (site_49 : List (List ARat)).length)) True.intro))) (by kernel_rfl)
end law_Derive
namespace linkworkref52_Check
@[reducible] noncomputable def fn : Func := Tryz.f23
noncomputable def atK1 : List Itm := focus [0, 2, 0, 0, 2, 1, 2, 0, 0, 2, 1, 2, 0, 0, 2, 0, 0] [.code (bodyOf fn)]
def inv1 (i_3 : Nat) (l : ALaw) : St := ⟨[(1, (.ptr 1 0)), (3, (eI (i_3 : Int)))], [(1, (.lit [(.pv (polyPV l.breaks)), (.pv (lpv (lcell ARat.cells) l.pieces))]))]⟩
@[reducible] noncomputable def Loop1 (i_3 : Nat) (l : ALaw) (r : PV) : Prop := L prg fn atK1 (inv1 i_3 l) r
noncomputable def atK2 : List Itm := focus [0, 2, 0, 0, 2, 1, 2, 0, 0, 2, 1, 2, 0, 0, 2, 0, 0, 0, 0, 0, 2, 1, 2, 2, 2, 2, 0, 0, 2, 0, 0] [.code (bodyOf fn)]
def inv2 (i_5 : Nat) (l : ALaw) : St := ⟨[(1, (.ptr 1 0)), (5, (eI (i_5 : Int)))], [(1, (.lit [(.pv (polyPV l.breaks)), (.pv (lpv (lcell ARat.cells) l.pieces))]))]⟩
@[reducible] noncomputable def Loop2 (i_5 : Nat) (l : ALaw) (r : PV) : Prop := L prg fn atK2 (inv2 i_5 l) r
theorem e0 (l : ALaw) (h1 : l.breaks.length = 0) : Contract prg 23 [l.pv] (vI 10) :=
  Contract.ofL Tryz.func23 (by kernel_rfl) (L.done mixed tabOk (n := 84) (ns := [1, 1, 1, 1, 1, 1, 1, 1, 1]) (tr := [.reg [], .reg [.none, .none, (iI (l.breaks.length : Int)), .none, .none, .skip, .skip, .skip, .skip, .skip, .skip, .skip, (.dec true)], .auto, .reg []]) (cj (o_len ARat.cells l.breaks) (cj (deqN_t h1) (cj (deqN_t h1) (cj (deqN_t h1) (cj (deqN_t h1) (cj (deqN_t h1) (cj (deqN_t h1) (cj (deqN_t h1) (cj (deqN_t h1) True.intro))))))))) (by kernel_rfl))
theorem e1 (l : ALaw) (h1 : l.breaks.length ≠ 0) (h2 : l.breaks.length ≠ l.pieces.length) : Contract prg 23 [l.pv] (vI 10) :=
  Contract.ofL Tryz.func23 (by kernel_rfl) (L.done mixed tabOk (n := 84) (ns := [1, 1, 1, 1, 1, 1, 1, 1, 1, 1, 1, 1]) (tr := [.reg [], .reg [.none, .none, (iI (l.breaks.length : Int)), .none, .none, .none, .none, (iI (l.breaks.length : Int)), .none, .none, (iI (l.pieces.length : Int)), .none, (.dec false)], .dec true, .reg []]) (cj (o_len ARat.cells l.breaks) (cj (deqN_f h1) (cj (deqN_f h1) (cj (deqN_f h1) (cj (o_len ARat.cells l.breaks) (cj (deqN_f h1) (cj (deqN_f h1) (cj (deqN_f h1) (cj (o_len (lcell ARat.cells) l.pieces) (cj (deqN_f h1) (cj (deqN_f h1) (cj (dneN_t h2) True.intro)))))))))))) (by kernel_rfl))
theorem e2 (l : ALaw) (h1 : l.breaks.length ≠ 0) (h2 : l.breaks.length = l.pieces.length) (h3 : 16 < l.breaks.length) : Contract prg 23 [l.pv] (vI 4) :=
  Contract.ofL Tryz.func23 (by kernel_rfl) (L.done mixed tabOk (n := 99) (ns := [1, 1, 1, 1, 1, 1, 1, 1, 1, 1, 1, 1, 1, 1]) (tr := [.reg [], .reg [.none, .none, (iI (l.breaks.length : Int)), .none, .none, .none, .none, (iI (l.breaks.length : Int)), .none, .none, (iI (l.pieces.length : Int)), .none, (.dec false)], .dec false, .reg [.none, .none, (iI (l.breaks.length : Int))], .dec true, .reg []]) (cj (o_len ARat.cells l.breaks) (cj (deqN_f h1) (cj (deqN_f h1) (cj (deqN_f h1) (cj (o_len ARat.cells l.breaks) (cj (deqN_f h1) (cj (deqN_f h1) (cj (deqN_f h1) (cj (o_len (lcell ARat.cells) l.pieces) (cj (deqN_f h1) (cj (deqN_f h1) (cj (dneN_f h2) (cj (o_len ARat.cells l.breaks) (cj (dltN_t h3) True.intro)))))))))))))) (by kernel_rfl))
theorem e3 (l : ALaw) {r : PV} (h1 : l.breaks.length ≠ 0) (h2 : l.breaks.length = l.pieces.length) (h3 : l.breaks.length ≤ 16) (hL : Loop1 0 l r) : Contract prg 23 [l.pv] r :=
  Contract.ofL Tryz.func23 (by kernel_rfl) (L.go mixed tabOk (n := 111) (ns := [1, 1, 1, 1, 1, 1, 1, 1, 1, 1, 1, 1, 1, 1]) (tr := [.reg [], .reg [.none, .none, (iI (l.breaks.length : Int)), .none, .none, .none, .none, (iI (l.breaks.length : Int)), .none, .none, (iI (l.pieces.length : Int)), .none, (.dec false)], .dec false, .reg [.none, .none, (iI (l.breaks.length : Int))], .dec false, .reg [], .keep [1, 3]]) (cj (o_len ARat.cells l.breaks) (cj (deqN_f h1) (cj (deqN_f h1) (cj (deqN_f h1) (cj (o_len ARat.cells l.breaks) (cj (deqN_f h1) (cj (deqN_f h1) (cj (deqN_f h1) (cj (o_len (lcell ARat.cells) l.pieces) (cj (deqN_f h1) (cj (deqN_f h1) (cj (dneN_f h2) (cj (o_len ARat.cells l.breaks) (cj (dltN_f h3) True.intro)))))))))))))) (by kernel_rfl) hL)
theorem l10 (i_3 : Nat) (l : ALaw) (v : ARat) (val : Bool) (h1 : i_3 < l.breaks.length) (h2 : l.breaks[i_3]? = some v) (h3 : Contract prg 28 [v.pv] (vB val)) (h4 : val = false) : Loop1 i_3 l (vI 3) :=
  L.done mixed tabOk (n := 159) (ns := [1, 1, 3, 1, 1, 1, 1, 1, 1, 1, 1, 1]) (tr := [.auto, .reg [.none, .none, .none, (iI (l.breaks.length : Int))], .dec true, .reg [.none, .none, .none, (.row i_3 (ARat.cells v))], dr 14 0 [.none, (.pv (vB val)), .none, .none, .skip, .skip, .skip, (.dec true), .none, .skip, .skip, .skip, .skip], .auto, .reg []]) (cj (o_len ARat.cells l.breaks) (cj (dltN_t h1) (cj (o_at ARat.cells (Eq.refl (((i_3 : Nat) : Int) : Int)) h2) (cj h3 (cj (bnot_t h4) (cj (bnot_t h4) (cj (bnot_t h4) (cj (bnot_t h4) (cj (Eq.refl true) (cj (Eq.refl true) (cj (Eq.refl true) (cj (Eq.refl true) True.intro)))))))))))) (by kernel_rfl)
theorem l11 (i_3 : Nat) (l : ALaw) (v : ARat) (val : Bool) (sig : Int) (h1 : i_3 < l.breaks.length) (h2 : l.breaks[i_3]? = some v) (h3 : Contract prg 28 [v.pv] (vB val)) (h4 : val = true) (h5 : Contract prg 19 [v.pv] (vI sig)) (h6 : sig < 0) : Loop1 i_3 l (vI 3) :=
  L.done mixed tabOk (n := 159) (ns := [1, 1, 3, 1, 1, 1, 1, 1, 1, 1, 1, 1, 1, 1]) (tr := [.auto, .reg [.none, .none, .none, (iI (l.breaks.length : Int))], .dec true, .reg [.none, .none, .none, (.row i_3 (ARat.cells v))], dr 14 0 [.none, (.pv (vB val)), .none, .none, .none, (.pv (vI sig)), .none, (.dec false), .none, .skip, .skip, .skip, .skip, (.dec true)], .auto, .reg []]) (cj (o_len ARat.cells l.breaks) (cj (dltN_t h1) (cj (o_at ARat.cells (Eq.refl (((i_3 : Nat) : Int) : Int)) h2) (cj h3 (cj (bnot_f h4) (cj (bnot_f h4) (cj h5 (cj (bnot_f h4) (cj (bnot_f h4) (cj (dlt_t h6) (cj (dlt_t h6) (cj (dlt_t h6) (cj (dlt_t h6) (cj (dlt_t h6) True.intro)))))))))))))) (by kernel_rfl)
theorem l12 (i_3 : Nat) (l : ALaw) (v : ARat) (val : Bool) (sig : Int) (of : ARat) (cmp : Int) (h1 : i_3 < l.breaks.length) (h2 : l.breaks[i_3]? = some v) (h3 : Contract prg 28 [v.pv] (vB val)) (h4 : val = true) (h5 : Contract prg 19 [v.pv] (vI sig)) (h6 : 0 ≤ sig) (h7 : Contract prg 58 [(vI 1)] of.pv) (h8 : Contract prg 68 [v.pv, of.pv] (vI cmp)) (h9 : 0 ≤ cmp) : Loop1 i_3 l (vI 3) :=
  L.done mixed tabOk (n := 159) (ns := [1, 1, 3, 1, 1, 1, 1, 1, 1, 1, 1, 1, 1, 1, 1, 1, 1]) (tr := [.auto, .reg [.none, .none, .none, (iI (l.breaks.length : Int))], .dec true, .reg [.none, .none, .none, (.row i_3 (ARat.cells v))], dr 14 0 [.none, (.pv (vB val)), .none, .none, .none, (.pv (vI sig)), .none, (.dec false), .none, .none, (.pv of.pv), (.pv (vI cmp)), .none, (.dec false)], .dec true, .reg []]) (cj (o_len ARat.cells l.breaks) (cj (dltN_t h1) (cj (o_at ARat.cells (Eq.refl (((i_3 : Nat) : Int) : Int)) h2) (cj h3 (cj (bnot_f h4) (cj (bnot_f h4) (cj h5 (cj (bnot_f h4) (cj (bnot_f h4) (cj (dlt_f h6) (cj (dlt_f h6) (cj h7 (cj (dlt_f h6) (cj h8 (cj (dlt_f h6) (cj (dlt_f h6) (cj (dle_t h9) True.intro))))))))))))))))) (by kernel_rfl)
theorem l13 (i_3 : Nat) (l : ALaw) (v : ARat) (val : Bool) (sig : Int) (of : ARat) (cmp sig1 : Int) (h1 : i_3 < l.breaks.length) (h2 : l.breaks[i_3]? = some v) (h3 : Contract prg 28 [v.pv] (vB val)) (h4 : val = true) (h5 : Contract prg 19 [v.pv] (vI sig)) (h6 : 0 ≤ sig) (h7 : Contract prg 58 [(vI 1)] of.pv) (h8 : Contract prg 68 [v.pv, of.pv] (vI cmp)) (h9 : cmp < 0) (h10 : i_3 = 0) (h11 : Contract prg 19 [v.pv] (vI sig1)) (h12 : sig1 ≠ 0) : Loop1 i_3 l (vI 12) :=
  L.done mixed tabOk (n := 171) (ns := [1, 1, 3, 1, 1, 1, 1, 1, 1, 1, 1, 1, 1, 1, 1, 1, 1, 1, 1, 1, 1, 1, 1, 1, 1, 1, 1]) (tr := [.auto, .reg [.none, .none, .none, (iI (l.breaks.length : Int))], .dec true, .reg [.none, .none, .none, (.row i_3 (ARat.cells v))], dr 14 0 [.none, (.pv (vB val)), .none, .none, .none, (.pv (vI sig)), .none, (.dec false), .none, .none, (.pv of.pv), (.pv (vI cmp)), .none, (.dec false)], .dec false, dr 22 0 [.none, .none, .none, .none, (.pv (vI sig1)), .none, (.dec true), .none, .skip, .skip, .skip, .skip, .skip, .skip, .skip, .skip, .skip, .skip, .skip, .skip, .skip, (.dec true)], .auto, .reg []]) (cj (o_len ARat.cells l.breaks) (cj (dltN_t h1) (cj (o_at ARat.cells (Eq.refl (((i_3 : Nat) : Int) : Int)) h2) (cj h3 (cj (bnot_f h4) (cj (bnot_f h4) (cj h5 (cj (bnot_f h4) (cj (bnot_f h4) (cj (dlt_f h6) (cj (dlt_f h6) (cj h7 (cj (dlt_f h6) (cj h8 (cj (dlt_f h6) (cj (dlt_f h6) (cj (dle_f h9) (cj (deqN_t h10) (cj (deqN_t h10) (cj h11 (cj (deqN_t h10) (cj (deqN_t h10) (cj (dne_t h12) (cj (dne_t h12) (cj (dne_t h12) (cj (dne_t h12) (cj (dne_t h12) True.intro))))))))))))))))))))))))))) (by kernel_rfl)
theorem l16 (i_3 : Nat) (l : ALaw) (v : ARat) (val : Bool) (sig : Int) (of : ARat) (cmp sig1 : Int) {r : PV} (h1 : i_3 < l.breaks.length) (h2 : l.breaks[i_3]? = some v) (h3 : Contract prg 28 [v.pv] (vB val)) (h4 : val = true) (h5 : Contract prg 19 [v.pv] (vI sig)) (h6 : 0 ≤ sig) (h7 : Contract prg 58 [(vI 1)] of.pv) (h8 : Contract prg 68 [v.pv, of.pv] (vI cmp)) (h9 : cmp < 0) (h10 : i_3 = 0) (h11 : Contract prg 19 [v.pv] (vI sig1)) (h12 : sig1 = 0) (h13 : i_3 ≤ 0) (h14 : (i_3 + 1) < 9223372036854775808) (hL : Loop1 (i_3 + 1) l r) : Loop1 i_3 l r :=
  L.go mixed tabOk (n := 174) (ns := [1, 1, 3, 1, 1, 1, 1, 1, 1, 1, 1, 1, 1, 1, 1, 1, 1, 1, 1, 1, 1, 1, 1, 1, 1, 1, 1, 1, 1, 1, 1, 1, 1, 1, 1, 1, 1, 1]) (tr := [.auto, .reg [.none, .none, .none, (iI (l.breaks.length : Int))], .dec true, .reg [.none, .none, .none, (.row i_3 (ARat.cells v))], dr 14 0 [.none, (.pv (vB val)), .none, .none, .none, (.pv (vI sig)), .none, (.dec false), .none, .none, (.pv of.pv), (.pv (vI cmp)), .none, (.dec false)], .dec false, dr 22 0 [.none, .none, .none, .none, (.pv (vI sig1)), .none, (.dec true), .none, .none, .none, .none, .skip, .skip, .skip, .skip, .skip, .skip, .skip, .skip, .skip, (.dec false), (.dec false)], .auto, .reg [.none, (iI (((i_3 + 1) : Nat) : Int))], .keep [1, 3], .drop [4]]) (cj (o_len ARat.cells l.breaks) (cj (dltN_t h1) (cj (o_at ARat.cells (Eq.refl (((i_3 : Nat) : Int) : Int)) h2) (cj h3 (cj (bnot_f h4) (cj (bnot_f h4) (cj h5 (cj (bnot_f h4) (cj (bnot_f h4) (cj (dlt_f h6) (cj (dlt_f h6) (cj h7 (cj (dlt_f h6) (cj h8 (cj (dlt_f h6) (cj (dlt_f h6) (cj (dle_f h9) (cj (deqN_t h10) (cj (deqN_t h10) (cj h11 (cj (deqN_t h10) (cj (deqN_t h10) (cj (dne_f h12) (cj (dne_f h12) (cj (dne_f h12) (cj (dltN_f h13) (cj (dltN_f h13) (cj (dltN_f h13) (cj (dltN_f h13) (cj (dltN_f h13) (cj (dltN_f h13) (cj (dltN_f h13) (cj (dltN_f h13) (cj (dltN_f h13) (cj (dne_f h12) (cj (dltN_f h13) (cj (dne_f h12) (cj (bs_addN h14) True.intro)))))))))))))))))))))))))))))))))))))) (by kernel_rfl) hL
theorem l17 (i_3 : Nat) (l : ALaw) (v : ARat) (val : Bool) (sig : Int) (of : ARat) (cmp : Int) (k : Nat) (v1 : ARat) (cmp1 : Int) (h1 : i_3 < l.breaks.length) (h2 : l.breaks[i_3]? = some v) (h3 : Contract prg 28 [v.pv] (vB val)) (h4 : val = true) (h5 : Contract prg 19 [v.pv] (vI sig)) (h6 : 0 ≤ sig) (h7 : Contract prg 58 [(vI 1)] of.pv) (h8 : Contract prg 68 [v.pv, of.pv] (vI cmp)) (h9 : cmp < 0) (h10 : i_3 ≠ 0) (h11 : 0 < i_3) (h12 : InI64 ((i_3 : Int) - 1)) (h13 : ((i_3 : Int) - 1) = (k : Int)) (h14 : l.breaks[k]? = some v1) (h15 : Contract prg 68 [v.pv, v1.pv] (vI cmp1)) (h16 : cmp1 ≤ 0) : Loop1 i_3 l (vI 12) :=
  L.done mixed tabOk (n := 171) (ns := [1, 1, 3, 1, 1, 1, 1, 1, 1, 1, 1, 1, 1, 1, 1, 1, 1, 1, 1, 1, 1, 1, 1, 1, 1, 1, 1, 1, 1, 1, 1, 3, 1, 1, 1, 1, 1, 1, 1]) (tr := [.auto, .reg [.none, .none, .none, (iI (l.breaks.length : Int))], .dec true, .reg [.none, .none, .none, (.row i_3 (ARat.cells v))], dr 14 0 [.none, (.pv (vB val)), .none, .none, .none, (.pv (vI sig)), .none, (.dec false), .none, .none, (.pv of.pv), (.pv (vI cmp)), .none, (.dec false)], .dec false, dr 22 0 [.none, .none, .none, .skip, .skip, .skip, (.dec false), .none, .none, .none, .none, .none, .none, .none, .none, (iI ((i_3 : Int) - 1)), (.row k (ARat.cells v1)), .none, (.pv (vI cmp1)), .none, (.dec true)], .dec true, .reg []]) (cj (o_len ARat.cells l.breaks) (cj (dltN_t h1) (cj (o_at ARat.cells (Eq.refl (((i_3 : Nat) : Int) : Int)) h2) (cj h3 (cj (bnot_f h4) (cj (bnot_f h4) (cj h5 (cj (bnot_f h4) (cj (bnot_f h4) (cj (dlt_f h6) (cj (dlt_f h6) (cj h7 (cj (dlt_f h6) (cj h8 (cj (dlt_f h6) (cj (dlt_f h6) (cj (dle_f h9) (cj (deqN_f h10) (cj (deqN_f h10) (cj (deqN_f h10) (cj (deqN_f h10) (cj (Eq.refl false) (cj (Eq.refl false) (cj (Eq.refl false) (cj (dltN_t h11) (cj (dltN_t h11) (cj (dltN_t h11) (cj (dltN_t h11) (cj (dltN_t h11) (cj (bs_sub h12) (cj (dltN_t h11) (cj (o_at ARat.cells h13 h14) (cj (dltN_t h11) (cj (dltN_t h11) (cj h15 (cj (dltN_t h11) (cj (Eq.refl false) (cj (dltN_t h11) (cj (dle_t h16) True.intro))))))))))))))))))))))))))))))))))))))) (by kernel_rfl)
theorem l18 (i_3 : Nat) (l : ALaw) (v : ARat) (val : Bool) (sig : Int) (of : ARat) (cmp : Int) (k : Nat) (v1 : ARat) (cmp1 : Int) {r : PV} (h1 : i_3 < l.breaks.length) (h2 : l.breaks[i_3]? = some v) (h3 : Contract prg 28 [v.pv] (vB val)) (h4 : val = true) (h5 : Contract prg 19 [v.pv] (vI sig)) (h6 : 0 ≤ sig) (h7 : Contract prg 58 [(vI 1)] of.pv) (h8 : Contract prg 68 [v.pv, of.pv] (vI cmp)) (h9 : cmp < 0) (h10 : i_3 ≠ 0) (h11 : 0 < i_3) (h12 : InI64 ((i_3 : Int) - 1)) (h13 : ((i_3 : Int) - 1) = (k : Int)) (h14 : l.breaks[k]? = some v1) (h15 : Contract prg 68 [v.pv, v1.pv] (vI cmp1)) (h16 : 0 < cmp1) (h17 : (i_3 + 1) < 9223372036854775808) (hL : Loop1 (i_3 + 1) l r) : Loop1 i_3 l r :=
  L.go mixed tabOk (n := 174) (ns := [1, 1, 3, 1, 1, 1, 1, 1, 1, 1, 1, 1, 1, 1, 1, 1, 1, 1, 1, 1, 1, 1, 1, 1, 1, 1, 1, 1, 1, 1, 1, 3, 1, 1, 1, 1, 1, 1, 1, 1]) (tr := [.auto, .reg [.none, .none, .none, (iI (l.breaks.length : Int))], .dec true, .reg [.none, .none, .none, (.row i_3 (ARat.cells v))], dr 14 0 [.none, (.pv (vB val)), .none, .none, .none, (.pv (vI sig)), .none, (.dec false), .none, .none, (.pv of.pv), (.pv (vI cmp)), .none, (.dec false)], .dec false, dr 22 0 [.none, .none, .none, .skip, .skip, .skip, (.dec false), .none, .none, .none, .none, .none, .none, .none, .none, (iI ((i_3 : Int) - 1)), (.row k (ARat.cells v1)), .none, (.pv (vI cmp1)), .none, (.dec true)], .dec false, .reg [.none, (iI (((i_3 + 1) : Nat) : Int))], .keep [1, 3], .drop [4]]) (cj (o_len ARat.cells l.breaks) (cj (dltN_t h1) (cj (o_at ARat.cells (Eq.refl (((i_3 : Nat) : Int) : Int)) h2) (cj h3 (cj (bnot_f h4) (cj (bnot_f h4) (cj h5 (cj (bnot_f h4) (cj (bnot_f h4) (cj (dlt_f h6) (cj (dlt_f h6) (cj h7 (cj (dlt_f h6) (cj h8 (cj (dlt_f h6) (cj (dlt_f h6) (cj (dle_f h9) (cj (deqN_f h10) (cj (deqN_f h10) (cj (deqN_f h10) (cj (deqN_f h10) (cj (Eq.refl false) (cj (Eq.refl false) (cj (Eq.refl false) (cj (dltN_t h11) (cj (dltN_t h11) (cj (dltN_t h11) (cj (dltN_t h11) (cj (dltN_t h11) (cj (bs_sub h12) (cj (dltN_t h11) (cj (o_at ARat.cells h13 h14) (cj (dltN_t h11) (cj (dltN_t h11) (cj h15 (cj (dltN_t h11) (cj (Eq.refl false) (cj (dltN_t h11) (cj (dle_f h16) (cj (bs_addN h17) True.intro)))))))))))))))))))))))))))))))))))))))) (by kernel_rfl) hL
theorem l110 (i_3 : Nat) (l : ALaw) {r : PV} (h1 : l.breaks.length ≤ i_3) (hL : Loop2 0 l r) : Loop1 i_3 l r :=
  L.go mixed tabOk (n := 153) (ns := [1, 1]) (tr := [.auto, .reg [.none, .none, .none, (iI (l.breaks.length : Int))], .dec false, .reg [], .keep [1, 5]]) (cj (o_len ARat.cells l.breaks) (cj (dltN_f h1) True.intro)) (by kernel_rfl) hL
theorem l20 (i_5 : Nat) (l : ALaw) (v : List ARat) (che : Int) (h1 : i_5 < l.pieces.length) (h2 : l.pieces[i_5]? = some v) (h3 : Contract prg 69 [(polyPV v)] (vI che)) (h4 : che ≠ 0) : Loop2 i_5 l (vI che) :=
  L.done mixed tabOk (n := 201) (ns := [1, 1, 3, 1, 1]) (tr := [.auto, .reg [.none, .none, .none, (iI (l.pieces.length : Int))], .dec true, .reg [.none, .none, .none, (.row i_5 ((lcell ARat.cells) v)), .none, (.pv (vI che))], .reg [], .dec true, .reg []]) (cj (o_len (lcell ARat.cells) l.pieces) (cj (dltN_t h1) (cj (o_at (lcell ARat.cells) (Eq.refl (((i_5 : Nat) : Int) : Int)) h2) (cj h3 (cj (dne_t h4) True.intro))))) (by kernel_rfl)
theorem l21 (i_5 : Nat) (l : ALaw) (v : List ARat) (che : Int) (h1 : i_5 < l.pieces.length) (h2 : l.pieces[i_5]? = some v) (h3 : Contract prg 69 [(polyPV v)] (vI che)) (h4 : che = 0) (h5 : 9 < v.length) : Loop2 i_5 l (vI 4) :=
  L.done mixed tabOk (n := 213) (ns := [1, 1, 3, 1, 1, 3, 1, 1]) (tr := [.auto, .reg [.none, .none, .none, (iI (l.pieces.length : Int))], .dec true, .reg [.none, .none, .none, (.row i_5 ((lcell ARat.cells) v)), .none, (.pv (vI che))], .reg [], .dec false, .reg [.none, .none, .none, (.row i_5 ((lcell ARat.cells) v)), .none, (iI (v.length : Int))], .dec true, .reg []]) (cj (o_len (lcell ARat.cells) l.pieces) (cj (dltN_t h1) (cj (o_at (lcell ARat.cells) (Eq.refl (((i_5 : Nat) : Int) : Int)) h2) (cj h3 (cj (dne_f h4) (cj (o_at (lcell ARat.cells) (Eq.refl (((i_5 : Nat) : Int) : Int)) h2) (cj (o_len ARat.cells v) (cj (dltN_t h5) True.intro)))))))) (by kernel_rfl)
theorem l22 (i_5 : Nat) (l : ALaw) (v : List ARat) (che : Int) {r : PV} (h1 : i_5 < l.pieces.length) (h2 : l.pieces[i_5]? = some v) (h3 : Contract prg 69 [(polyPV v)] (vI che)) (h4 : che = 0) (h5 : v.length ≤ 9) (h6 : (i_5 + 1) < 9223372036854775808) (hL : Loop2 (i_5 + 1) l r) : Loop2 i_5 l r :=
  L.go mixed tabOk (n := 216) (ns := [1, 1, 3, 1, 1, 3, 1, 1, 1]) (tr := [.auto, .reg [.none, .none, .none, (iI (l.pieces.length : Int))], .dec true, .reg [.none, .none, .none, (.row i_5 ((lcell ARat.cells) v)), .none, (.pv (vI che))], .reg [], .dec false, .reg [.none, .none, .none, (.row i_5 ((lcell ARat.cells) v)), .none, (iI (v.length : Int))], .dec false, .reg [.none, (iI (((i_5 + 1) : Nat) : Int))], .keep [1, 5]]) (cj (o_len (lcell ARat.cells) l.pieces) (cj (dltN_t h1) (cj (o_at (lcell ARat.cells) (Eq.refl (((i_5 : Nat) : Int) : Int)) h2) (cj h3 (cj (dne_f h4) (cj (o_at (lcell ARat.cells) (Eq.refl (((i_5 : Nat) : Int) : Int)) h2) (cj (o_len ARat.cells v) (cj (dltN_f h5) (cj (bs_addN h6) True.intro))))))))) (by kernel_rfl) hL
theorem l23 (i_5 : Nat) (l : ALaw) (h1 : l.pieces.length ≤ i_5) : Loop2 i_5 l (vI 0) :=
  L.done mixed tabOk (n := 186) (ns := [1, 1]) (tr := [.auto, .reg [.none, .none, .none, (iI (l.pieces.length : Int))], .dec false, .reg []]) (cj (o_len (lcell ARat.cells) l.pieces) (cj (dltN_f h1) True.intro)) (by kernel_rfl)
end linkworkref52_Check
namespace law_Check
@[reducible] noncomputable def fn : Func := Tryz.f24
noncomputable def atK1 : List Itm := focus [0, 2, 0, 0, 2, 1, 2, 0, 0, 2, 1, 2, 0, 0, 2, 0, 0] [.code (bodyOf fn)]
def inv1 (l : ALaw) (t_30 : Nat) : St := ⟨[(1, (.ptr 1 0)), (28, (.pv (polyPV l.breaks))), (29, (eI (l.breaks.length : Int))), (30, (eI (t_30 : Int)))], [(1, (.lit [(.pv (polyPV l.breaks)), (.pv (lpv (lcell ARat.cells) l.pieces))]))]⟩
@[reducible] noncomputable def Loop1 (l : ALaw) (t_30 : Nat) (r : PV) : Prop := L prg fn atK1 (inv1 l t_30) r
noncomputable def atK2 : List Itm := focus [0, 2, 0, 0, 2, 1, 2, 0, 0, 2, 1, 2, 0, 0, 2, 0, 0, 0, 0, 2, 0, 1, 2, 2, 2, 2, 0, 0, 2, 0, 0] [.code (bodyOf fn)]
def inv2 (l : ALaw) (t_77 : Nat) : St := ⟨[(75, (.pv (lpv (lcell ARat.cells) l.pieces))), (76, (eI (l.pieces.length : Int))), (77, (eI (t_77 : Int)))], []⟩
@[reducible] noncomputable def Loop2 (l : ALaw) (t_77 : Nat) (r : PV) : Prop := L prg fn atK2 (inv2 l t_77) r
theorem e0 (l : ALaw) (h1 : l.breaks.length = 0) : Contract prg 24 [l.pv] (.iface 57 (vI 10)) :=
  Contract.ofL Tryz.func24 (by kernel_rfl) (L.done mixed tabOk (n := 84) (ns := [1, 1, 1, 1, 1, 1, 1, 1, 1]) (tr := [.reg [], .reg [.none, .none, (iI (l.breaks.length : Int)), .none, .none, .skip, .skip, .skip, .skip, .skip, .skip, .skip, (.dec true)], .auto, .reg []]) (cj (o_len ARat.cells l.breaks) (cj (deqN_t h1) (cj (deqN_t h1) (cj (deqN_t h1) (cj (deqN_t h1) (cj (deqN_t h1) (cj (deqN_t h1) (cj (deqN_t h1) (cj (deqN_t h1) True.intro))))))))) (by kernel_rfl))
theorem e1 (l : ALaw) (h1 : l.breaks.length ≠ 0) (h2 : l.breaks.length ≠ l.pieces.length) : Contract prg 24 [l.pv] (.iface 57 (vI 10)) :=
  Contract.ofL Tryz.func24 (by kernel_rfl) (L.done mixed tabOk (n := 84) (ns := [1, 1, 1, 1, 1, 1, 1, 1, 1, 1, 1, 1]) (tr := [.reg [], .reg [.none, .none, (iI (l.breaks.length : Int)), .none, .none, .none, .none, (iI (l.breaks.length : Int)), .none, .none, (iI (l.pieces.length : Int)), .none, (.dec false)], .dec true, .reg []]) (cj (o_len ARat.cells l.breaks) (cj (deqN_f h1) (cj (deqN_f h1) (cj (deqN_f h1) (cj (o_len ARat.cells l.breaks) (cj (deqN_f h1) (cj (deqN_f h1) (cj (deqN_f h1) (cj (o_len (lcell ARat.cells) l.pieces) (cj (deqN_f h1) (cj (deqN_f h1) (cj (dneN_t h2) True.intro)))))))))))) (by kernel_rfl))
theorem e2 (l : ALaw) (h1 : l.breaks.length ≠ 0) (h2 : l.breaks.length = l.pieces.length) (h3 : 16 < l.breaks.length) : Contract prg 24 [l.pv] (.iface 57 (vI 4)) :=
  Contract.ofL Tryz.func24 (by kernel_rfl) (L.done mixed tabOk (n := 99) (ns := [1, 1, 1, 1, 1, 1, 1, 1, 1, 1, 1, 1, 1, 1]) (tr := [.reg [], .reg [.none, .none, (iI (l.breaks.length : Int)), .none, .none, .none, .none, (iI (l.breaks.length : Int)), .none, .none, (iI (l.pieces.length : Int)), .none, (.dec false)], .dec false, .reg [.none, .none, (iI (l.breaks.length : Int))], .dec true, .reg []]) (cj (o_len ARat.cells l.breaks) (cj (deqN_f h1) (cj (deqN_f h1) (cj (deqN_f h1) (cj (o_len ARat.cells l.breaks) (cj (deqN_f h1) (cj (deqN_f h1) (cj (deqN_f h1) (cj (o_len (lcell ARat.cells) l.pieces) (cj (deqN_f h1) (cj (deqN_f h1) (cj (dneN_f h2) (cj (o_len ARat.cells l.breaks) (cj (dltN_t h3) True.intro)))))))))))))) (by kernel_rfl))
theorem e3 (l : ALaw) {r : PV} (h1 : l.breaks.length ≠ 0) (h2 : l.breaks.length = l.pieces.length) (h3 : l.breaks.length ≤ 16) (hL : Loop1 l 0 r) : Contract prg 24 [l.pv] r :=
  Contract.ofL Tryz.func24 (by kernel_rfl) (L.go mixed tabOk (n := 111) (ns := [1, 1, 1, 1, 1, 1, 1, 1, 1, 1, 1, 1, 1, 1, 1]) (tr := [.reg [], .reg [.none, .none, (iI (l.breaks.length : Int)), .none, .none, .none, .none, (iI (l.breaks.length : Int)), .none, .none, (iI (l.pieces.length : Int)), .none, (.dec false)], .dec false, .reg [.none, .none, (iI (l.breaks.length : Int))], .dec false, .reg [.none, .none, (iI (l.breaks.length : Int))], .keep [1, 28, 29, 30]]) (cj (o_len ARat.cells l.breaks) (cj (deqN_f h1) (cj (deqN_f h1) (cj (deqN_f h1) (cj (o_len ARat.cells l.breaks) (cj (deqN_f h1) (cj (deqN_f h1) (cj (deqN_f h1) (cj (o_len (lcell ARat.cells) l.pieces) (cj (deqN_f h1) (cj (deqN_f h1) (cj (dneN_f h2) (cj (o_len ARat.cells l.breaks) (cj (dltN_f h3) (cj (o_len ARat.cells l.breaks) True.intro))))))))))))))) (by kernel_rfl) hL)
theorem l10 (l : ALaw) (t_30 : Nat) (v : ARat) (val : Bool) (h1 : t_30 < l.breaks.length) (h2 : l.breaks[t_30]? = some v) (h3 : Contract prg 50 [v.pv] (vB val)) (h4 : val = false) : Loop1 l t_30 (.iface 57 (vI 3)) :=
  L.done mixed tabOk (n := 159) (ns := [1, 3, 1, 1, 1, 1, 1, 1, 1, 1, 1]) (tr := [.auto, .reg [], .dec true, .reg [.none, (.row t_30 (ARat.cells v))], dr 14 0 [.none, (.pv (vB val)), .none, .none, .skip, .skip, .skip, (.dec true), .none, .skip, .skip, .skip, .skip], .auto, .reg []]) (cj (dltN_t h1) (cj (o_at ARat.cells (Eq.refl (((t_30 : Nat) : Int) : Int)) h2) (cj h3 (cj (bnot_t h4) (cj (bnot_t h4) (cj (bnot_t h4) (cj (bnot_t h4) (cj (Eq.refl true) (cj (Eq.refl true) (cj (Eq.refl true) (cj (Eq.refl true) True.intro))))))))))) (by kernel_rfl)
theorem l11 (l : ALaw) (t_30 : Nat) (v : ARat) (val : Bool) (sig : Int) (h1 : t_30 < l.breaks.length) (h2 : l.breaks[t_30]? = some v) (h3 : Contract prg 50 [v.pv] (vB val)) (h4 : val = true) (h5 : Contract prg 39 [v.pv] (vI sig)) (h6 : sig < 0) : Loop1 l t_30 (.iface 57 (vI 3)) :=
  L.done mixed tabOk (n := 159) (ns := [1, 3, 1, 1, 1, 1, 1, 1, 1, 1, 1, 1, 1]) (tr := [.auto, .reg [], .dec true, .reg [.none, (.row t_30 (ARat.cells v))], dr 14 0 [.none, (.pv (vB val)), .none, .none, .none, (.pv (vI sig)), .none, (.dec false), .none, .skip, .skip, .skip, .skip, (.dec true)], .auto, .reg []]) (cj (dltN_t h1) (cj (o_at ARat.cells (Eq.refl (((t_30 : Nat) : Int) : Int)) h2) (cj h3 (cj (bnot_f h4) (cj (bnot_f h4) (cj h5 (cj (bnot_f h4) (cj (bnot_f h4) (cj (dlt_t h6) (cj (dlt_t h6) (cj (dlt_t h6) (cj (dlt_t h6) (cj (dlt_t h6) True.intro))))))))))))) (by kernel_rfl)
theorem l12 (l : ALaw) (t_30 : Nat) (v : ARat) (val : Bool) (sig : Int) (one : ARat) (cmp : Int) (h1 : t_30 < l.breaks.length) (h2 : l.breaks[t_30]? = some v) (h3 : Contract prg 50 [v.pv] (vB val)) (h4 : val = true) (h5 : Contract prg 39 [v.pv] (vI sig)) (h6 : 0 ≤ sig) (h7 : Contract prg 53 [] one.pv) (h8 : Contract prg 38 [v.pv, one.pv] (vI cmp)) (h9 : 0 ≤ cmp) : Loop1 l t_30 (.iface 57 (vI 3)) :=
  L.done mixed tabOk (n := 159) (ns := [1, 3, 1, 1, 1, 1, 1, 1, 1, 1, 1, 1, 1, 1, 1, 1]) (tr := [.auto, .reg [], .dec true, .reg [.none, (.row t_30 (ARat.cells v))], dr 14 0 [.none, (.pv (vB val)), .none, .none, .none, (.pv (vI sig)), .none, (.dec false), .none, .none, (.pv one.pv), (.pv (vI cmp)), .none, (.dec false)], .dec true, .reg []]) (cj (dltN_t h1) (cj (o_at ARat.cells (Eq.refl (((t_30 : Nat) : Int) : Int)) h2) (cj h3 (cj (bnot_f h4) (cj (bnot_f h4) (cj h5 (cj (bnot_f h4) (cj (bnot_f h4) (cj (dlt_f h6) (cj (dlt_f h6) (cj h7 (cj (dlt_f h6) (cj h8 (cj (dlt_f h6) (cj (dlt_f h6) (cj (dle_t h9) True.intro)))))))))))))))) (by kernel_rfl)
theorem l13 (l : ALaw) (t_30 : Nat) (v : ARat) (val : Bool) (sig : Int) (one : ARat) (cmp sig1 : Int) (h1 : t_30 < l.breaks.length) (h2 : l.breaks[t_30]? = some v) (h3 : Contract prg 50 [v.pv] (vB val)) (h4 : val = true) (h5 : Contract prg 39 [v.pv] (vI sig)) (h6 : 0 ≤ sig) (h7 : Contract prg 53 [] one.pv) (h8 : Contract prg 38 [v.pv, one.pv] (vI cmp)) (h9 : cmp < 0) (h10 : t_30 = 0) (h11 : Contract prg 39 [v.pv] (vI sig1)) (h12 : sig1 ≠ 0) : Loop1 l t_30 (.iface 57 (vI 12)) :=
  L.done mixed tabOk (n := 171) (ns := [1, 3, 1, 1, 1, 1, 1, 1, 1, 1, 1, 1, 1, 1, 1, 1, 1, 1, 1, 1, 1, 1, 1, 1, 1, 1]) (tr := [.auto, .reg [], .dec true, .reg [.none, (.row t_30 (ARat.cells v))], dr 14 0 [.none, (.pv (vB val)), .none, .none, .none, (.pv (vI sig)), .none, (.dec false), .none, .none, (.pv one.pv), (.pv (vI cmp)), .none, (.dec false)], .dec false, dr 22 0 [.none, .none, .none, .none, (.pv (vI sig1)), .none, (.dec true), .none, .skip, .skip, .skip, .skip, .skip, .skip, .skip, .skip, .skip, .skip, .skip, .skip, .skip, (.dec true)], .auto, .reg []]) (cj (dltN_t h1) (cj (o_at ARat.cells (Eq.refl (((t_30 : Nat) : Int) : Int)) h2) (cj h3 (cj (bnot_f h4) (cj (bnot_f h4) (cj h5 (cj (bnot_f h4) (cj (bnot_f h4) (cj (dlt_f h6) (cj (dlt_f h6) (cj h7 (cj (dlt_f h6) (cj h8 (cj (dlt_f h6) (cj (dlt_f h6) (cj (dle_f h9) (cj (deqN_t h10) (cj (deqN_t h10) (cj h11 (cj (deqN_t h10) (cj (deqN_t h10) (cj (dne_t h12) (cj (dne_t h12) (cj (dne_t h12) (cj (dne_t h12) (cj (dne_t h12) True.intro)))))))))))))))))))))))))) (by kernel_rfl)
theorem l16 (l : ALaw) (t_30 : Nat) (v : ARat) (val : Bool) (sig : Int) (one : ARat) (cmp sig1 : Int) {r : PV} (h1 : t_30 < l.breaks.length) (h2 : l.breaks[t_30]? = some v) (h3 : Contract prg 50 [v.pv] (vB val)) (h4 : val = true) (h5 : Contract prg 39 [v.pv] (vI sig)) (h6 : 0 ≤ sig) (h7 : Contract prg 53 [] one.pv) (h8 : Contract prg 38 [v.pv, one.pv] (vI cmp)) (h9 : cmp < 0) (h10 : t_30 = 0) (h11 : Contract prg 39 [v.pv] (vI sig1)) (h12 : sig1 = 0) (h13 : t_30 ≤ 0) (h14 : (t_30 + 1) < 9223372036854775808) (hL : Loop1 l (t_30 + 1) r) : Loop1 l t_30 r :=
  L.go mixed tabOk (n := 174) (ns := [1, 3, 1, 1, 1, 1, 1, 1, 1, 1, 1, 1, 1, 1, 1, 1, 1, 1, 1, 1, 1, 1, 1, 1, 1, 1, 1, 1, 1, 1, 1, 1, 1, 1, 1, 1, 1]) (tr := [.auto, .reg [], .dec true, .reg [.none, (.row t_30 (ARat.cells v))], dr 14 0 [.none, (.pv (vB val)), .none, .none, .none, (.pv (vI sig)), .none, (.dec false), .none, .none, (.pv one.pv), (.pv (vI cmp)), .none, (.dec false)], .dec false, dr 22 0 [.none, .none, .none, .none, (.pv (vI sig1)), .none, (.dec true), .none, .none, .none, .none, .skip, .skip, .skip, .skip, .skip, .skip, .skip, .skip, .skip, (.dec false), (.dec false)], .auto, .reg [(iI (((t_30 + 1) : Nat) : Int))], .keep [1, 28, 29, 30], .drop [4]]) (cj (dltN_t h1) (cj (o_at ARat.cells (Eq.refl (((t_30 : Nat) : Int) : Int)) h2) (cj h3 (cj (bnot_f h4) (cj (bnot_f h4) (cj h5 (cj (bnot_f h4) (cj (bnot_f h4) (cj (dlt_f h6) (cj (dlt_f h6) (cj h7 (cj (dlt_f h6) (cj h8 (cj (dlt_f h6) (cj (dlt_f h6) (cj (dle_f h9) (cj (deqN_t h10) (cj (deqN_t h10) (cj h11 (cj (deqN_t h10) (cj (deqN_t h10) (cj (dne_f h12) (cj (dne_f h12) (cj (dne_f h12) (cj (dltN_f h13) (cj (dltN_f h13) (cj (dltN_f h13) (cj (dltN_f h13) (cj (dltN_f h13) (cj (dltN_f h13) (cj (dltN_f h13) (cj (dltN_f h13) (cj (dltN_f h13) (cj (dne_f h12) (cj (dltN_f h13) (cj (dne_f h12) (cj (bs_addN h14) True.intro))))))))))))))))))))))))))))))))))))) (by kernel_rfl) hL
theorem l17 (l : ALaw) (t_30 : Nat) (v : ARat) (val : Bool) (sig : Int) (one : ARat) (cmp : Int) (k : Nat) (v1 : ARat) (cmp1 : Int) (h1 : t_30 < l.breaks.length) (h2 : l.breaks[t_30]? = some v) (h3 : Contract prg 50 [v.pv] (vB val)) (h4 : val = true) (h5 : Contract prg 39 [v.pv] (vI sig)) (h6 : 0 ≤ sig) (h7 : Contract prg 53 [] one.pv) (h8 : Contract prg 38 [v.pv, one.pv] (vI cmp)) (h9 : cmp < 0) (h10 : t_30 ≠ 0) (h11 : 0 < t_30) (h12 : InI64 ((t_30 : Int) - 1)) (h13 : ((t_30 : Int) - 1) = (k : Int)) (h14 : l.breaks[k]? = some v1) (h15 : Contract prg 38 [v.pv, v1.pv] (vI cmp1)) (h16 : cmp1 ≤ 0) : Loop1 l t_30 (.iface 57 (vI 12)) :=
  L.done mixed tabOk (n := 171) (ns := [1, 3, 1, 1, 1, 1, 1, 1, 1, 1, 1, 1, 1, 1, 1, 1, 1, 1, 1, 1, 1, 1, 1, 1, 1, 1, 1, 1, 1, 1, 3, 1, 1, 1, 1, 1, 1, 1]) (tr := [.auto, .reg [], .dec true, .reg [.none, (.row t_30 (ARat.cells v))], dr 14 0 [.none, (.pv (vB val)), .none, .none, .none, (.pv (vI sig)), .none, (.dec false), .none, .none, (.pv one.pv), (.pv (vI cmp)), .none, (.dec false)], .dec false, dr 22 0 [.none, .none, .none, .skip, .skip, .skip, (.dec false), .none, .none, .none, .none, .none, .none, .none, .none, (iI ((t_30 : Int) - 1)), (.row k (ARat.cells v1)), .none, (.pv (vI cmp1)), .none, (.dec true)], .dec true, .reg []]) (cj (dltN_t h1) (cj (o_at ARat.cells (Eq.refl (((t_30 : Nat) : Int) : Int)) h2) (cj h3 (cj (bnot_f h4) (cj (bnot_f h4) (cj h5 (cj (bnot_f h4) (cj (bnot_f h4) (cj (dlt_f h6) (cj (dlt_f h6) (cj h7 (cj (dlt_f h6) (cj h8 (cj (dlt_f h6) (cj (dlt_f h6) (cj (dle_f h9) (cj (deqN_f h10) (cj (deqN_f h10) (cj (deqN_f h10) (cj (deqN_f h10) (cj (Eq.refl false) (cj (Eq.refl false) (cj (Eq.refl false) (cj (dltN_t h11) (cj (dltN_t h11) (cj (dltN_t h11) (cj (dltN_t h11) (cj (dltN_t h11) (cj (bs_sub h12) (cj (dltN_t h11) (cj (o_at ARat.cells h13 h14) (cj (dltN_t h11) (cj (dltN_t h11) (cj h15 (cj (dltN_t h11) (cj (Eq.refl false) (cj (dltN_t h11) (cj (dle_t h16) True.intro)))))))))))))))))))))))))))))))))))))) (by kernel_rfl)
theorem l18 (l : ALaw) (t_30 : Nat) (v : ARat) (val : Bool) (sig : Int) (one : ARat) (cmp : Int) (k : Nat) (v1 : ARat) (cmp1 : Int) {r : PV} (h1 : t_30 < l.breaks.length) (h2 : l.breaks[t_30]? = some v) (h3 : Contract prg 50 [v.pv] (vB val)) (h4 : val = true) (h5 : Contract prg 39 [v.pv] (vI sig)) (h6 : 0 ≤ sig) (h7 : Contract prg 53 [] one.pv) (h8 : Contract prg 38 [v.pv, one.pv] (vI cmp)) (h9 : cmp < 0) (h10 : t_30 ≠ 0) (h11 : 0 < t_30) (h12 : InI64 ((t_30 : Int) - 1)) (h13 : ((t_30 : Int) - 1) = (k : Int)) (h14 : l.breaks[k]? = some v1) (h15 : Contract prg 38 [v.pv, v1.pv] (vI cmp1)) (h16 : 0 < cmp1) (h17 : (t_30 + 1) < 9223372036854775808) (hL : Loop1 l (t_30 + 1) r) : Loop1 l t_30 r :=
  L.go mixed tabOk (n := 174) (ns := [1, 3, 1, 1, 1, 1, 1, 1, 1, 1, 1, 1, 1, 1, 1, 1, 1, 1, 1, 1, 1, 1, 1, 1, 1, 1, 1, 1, 1, 1, 3, 1, 1, 1, 1, 1, 1, 1, 1]) (tr := [.auto, .reg [], .dec true, .reg [.none, (.row t_30 (ARat.cells v))], dr 14 0 [.none, (.pv (vB val)), .none, .none, .none, (.pv (vI sig)), .none, (.dec false), .none, .none, (.pv one.pv), (.pv (vI cmp)), .none, (.dec false)], .dec false, dr 22 0 [.none, .none, .none, .skip, .skip, .skip, (.dec false), .none, .none, .none, .none, .none, .none, .none, .none, (iI ((t_30 : Int) - 1)), (.row k (ARat.cells v1)), .none, (.pv (vI cmp1)), .none, (.dec true)], .dec false, .reg [(iI (((t_30 + 1) : Nat) : Int))], .keep [1, 28, 29, 30], .drop [4]]) (cj (dltN_t h1) (cj (o_at ARat.cells (Eq.refl (((t_30 : Nat) : Int) : Int)) h2) (cj h3 (cj (bnot_f h4) (cj (bnot_f h4) (cj h5 (cj (bnot_f h4) (cj (bnot_f h4) (cj (dlt_f h6) (cj (dlt_f h6) (cj h7 (cj (dlt_f h6) (cj h8 (cj (dlt_f h6) (cj (dlt_f h6) (cj (dle_f h9) (cj (deqN_f h10) (cj (deqN_f h10) (cj (deqN_f h10) (cj (deqN_f h10) (cj (Eq.refl false) (cj (Eq.refl false) (cj (Eq.refl false) (cj (dltN_t h11) (cj (dltN_t h11) (cj (dltN_t h11) (cj (dltN_t h11) (cj (dltN_t h11) (cj (bs_sub h12) (cj (dltN_t h11) (cj (o_at ARat.cells h13 h14) (cj (dltN_t h11) (cj (dltN_t h11) (cj h15 (cj (dltN_t h11) (cj (Eq.refl false) (cj (dltN_t h11) (cj (dle_f h16) (cj (bs_addN h17) True.intro))))))))))))))))))))))))))))))))))))))) (by kernel_rfl) hL
theorem l110 (l : ALaw) (t_30 : Nat) {r : PV} (h1 : l.breaks.length ≤ t_30) (hL : Loop2 l 0 r) : Loop1 l t_30 r :=
  L.go mixed tabOk (n := 153) (ns := [1, 1]) (tr := [.auto, .reg [], .dec false, .reg [.none, .none, (iI (l.pieces.length : Int))], .keep [75, 76, 77], .drop [1]]) (cj (dltN_f h1) (cj (o_len (lcell ARat.cells) l.pieces) True.intro)) (by kernel_rfl) hL
theorem l20 (l : ALaw) (t_77 : Nat) (v : List ARat) (deg : Int) (h1 : t_77 < l.pieces.length) (h2 : l.pieces[t_77]? = some v) (h3 : Contract prg 61 [(polyPV v)] .nilI) (h4 : Contract prg 70 [(polyPV v)] (vI deg)) (h5 : 8 < deg) : Loop2 l t_77 (.iface 57 (vI 4)) :=
  L.done mixed tabOk (n := 219) (ns := [1, 3, 1, 1, 1]) (tr := [.auto, .reg [], .dec true, .reg [(.row t_77 ((lcell ARat.cells) v))], .reg [.none, (.pv .nilI)], .reg [], .auto, .reg [.none, (.pv (vI deg))], .dec true, .reg []]) (cj (dltN_t h1) (cj (o_at (lcell ARat.cells) (Eq.refl (((t_77 : Nat) : Int) : Int)) h2) (cj h3 (cj h4 (cj (dlt_t h5) True.intro))))) (by kernel_rfl)
theorem l21 (l : ALaw) (t_77 : Nat) (v : List ARat) (deg : Int) {r : PV} (h1 : t_77 < l.pieces.length) (h2 : l.pieces[t_77]? = some v) (h3 : Contract prg 61 [(polyPV v)] .nilI) (h4 : Contract prg 70 [(polyPV v)] (vI deg)) (h5 : deg ≤ 8) (h6 : (t_77 + 1) < 9223372036854775808) (hL : Loop2 l (t_77 + 1) r) : Loop2 l t_77 r :=
  L.go mixed tabOk (n := 222) (ns := [1, 3, 1, 1, 1, 1]) (tr := [.auto, .reg [], .dec true, .reg [(.row t_77 ((lcell ARat.cells) v))], .reg [.none, (.pv .nilI)], .reg [], .auto, .reg [.none, (.pv (vI deg))], .dec false, .reg [(iI (((t_77 + 1) : Nat) : Int))], .keep [75, 76, 77]]) (cj (dltN_t h1) (cj (o_at (lcell ARat.cells) (Eq.refl (((t_77 : Nat) : Int) : Int)) h2) (cj h3 (cj h4 (cj (dlt_f h5) (cj (bs_addN h6) True.intro)))))) (by kernel_rfl) hL
theorem l22 (l : ALaw) (t_77 : Nat) (v : List ARat) (che : Int) (h1 : t_77 < l.pieces.length) (h2 : l.pieces[t_77]? = some v) (h3 : Contract prg 61 [(polyPV v)] (.iface 57 (vI che))) : Loop2 l t_77 (.iface 57 (vI che)) :=
  L.done mixed tabOk (n := 207) (ns := [1, 3, 1]) (tr := [.auto, .reg [], .dec true, .reg [(.row t_77 ((lcell ARat.cells) v))], .reg [.none, (.pv (.iface 57 (vI che)))], .reg [], .auto, .reg []]) (cj (dltN_t h1) (cj (o_at (lcell ARat.cells) (Eq.refl (((t_77 : Nat) : Int) : Int)) h2) (cj h3 True.intro))) (by kernel_rfl)
theorem l23 (l : ALaw) (t_77 : Nat) (h1 : l.pieces.length ≤ t_77) : Loop2 l t_77 .nilI :=
  L.done mixed tabOk (n := 186) (ns := [1]) (tr := [.auto, .reg [], .dec false, .reg []]) (cj (dltN_f h1) True.intro) (by kernel_rfl)
end law_Check
namespace law_Bounds
@[reducible] noncomputable def fn : Func := Tryz.f34
noncomputable def atK1 : List Itm := focus [0, 2, 0, 0, 2, 0, 2, 1, 2, 0, 2, 0, 0, 2, 0, 0] [.code (bodyOf fn)]
def inv1 (l : ALaw) (t_19 : Nat) (site_5 : ARange) : St := ⟨[(1, (.ptr 1 0)), (2, (.ptr 2 0)), (5, (.ptr 5 0)), (17, (.pv (lpv (lcell ARat.cells) l.pieces))), (18, (eI (l.pieces.length : Int))), (19, (eI (t_19 : Int)))], [(1, (.lit [(.pv (polyPV l.breaks)), (.pv (lpv (lcell ARat.cells) l.pieces))])), (2, (.lit [(eB false), (.pv (.list [])), (.pv (.list [])), (eB false), (.pv (.list [])), (.pv (.list []))])), (5, (.lit [(eB site_5.lo.neg), (.pv (wordsPV site_5.lo.num)), (.pv (wordsPV site_5.lo.den)), (eB site_5.hi.neg), (.pv (wordsPV site_5.hi.num)), (.pv (wordsPV site_5.hi.den))]))]⟩
@[reducible] noncomputable def Loop1 (l : ALaw) (t_19 : Nat) (site_5 : ARange) (r : PV) : Prop := L prg fn atK1 (inv1 l t_19 site_5) r
theorem e0 (l : ALaw) {r : PV} (h1 : Contract prg 24 [l.pv] .nilI) (hL : Loop1 l 0 (⟨(⟨false, [], []⟩ : ARat), (⟨false, [], []⟩ : ARat)⟩ : ARange) r) : Contract prg 34 [l.pv] r :=
  Contract.ofL Tryz.func34 (by kernel_rfl) (L.go mixed tabOk (n := 108) (ns := [1, 1]) (tr := [.reg [], .reg [.none, (.pv .nilI)], .reg [], .auto, .reg [], .reg [.none, .none, (iI (l.pieces.length : Int))], .keep [1, 2, 5, 17, 18, 19], .ord [1, 2, 5]]) (cj h1 (cj (o_len (lcell ARat.cells) l.pieces) True.intro)) (by kernel_rfl) hL)
theorem l10 (l : ALaw) (t_19 : Nat) (site_5 : ARange) (v : List ARat) (len : ARat) (ove hul : ARange) {r : PV} (h1 : t_19 < l.pieces.length) (h2 : l.pieces[t_19]? = some v) (h3 : Contract prg 85 [l.pv, (vI (t_19 : Int))] len.pv) (h4 : Contract prg 84 [(polyPV v), (⟨(⟨false, [], []⟩ : ARat), len⟩ : ARange).pv] (.tup [ove.pv, .nilI])) (h5 : t_19 = 0) (h6 : Contract prg 86 [ove.pv, ove.pv] hul.pv) (h7 : (t_19 + 1) < 9223372036854775808) (hL : Loop1 l (t_19 + 1) hul r) : Loop1 l t_19 site_5 r :=
  L.go mixed tabOk (n := 183) (ns := [1, 3, 1, 1, 1, 1, 1]) (tr := [.auto, .reg [], .dec true, .reg [.none, (.row t_19 ((lcell ARat.cells) v))], .reg [.none, .none, .none, (.pv len.pv), .none, (.pv (.tup [ove.pv, .nilI]))], .reg [], .auto, .reg [], .dec true, .reg [], .reg [.none, .none, (.pv hul.pv)], .reg [(iI (((t_19 + 1) : Nat) : Int))], .keep [1, 2, 5, 17, 18, 19], .drop [8]]) (cj (dltN_t h1) (cj (o_at (lcell ARat.cells) (Eq.refl (((t_19 : Nat) : Int) : Int)) h2) (cj h3 (cj h4 (cj (deqN_t h5) (cj h6 (cj (bs_addN h7) True.intro))))))) (by kernel_rfl) hL
theorem l11 (l : ALaw) (t_19 : Nat) (site_5 : ARange) (v : List ARat) (len : ARat) (ove hul : ARange) {r : PV} (h1 : t_19 < l.pieces.length) (h2 : l.pieces[t_19]? = some v) (h3 : Contract prg 85 [l.pv, (vI (t_19 : Int))] len.pv) (h4 : Contract prg 84 [(polyPV v), (⟨(⟨false, [], []⟩ : ARat), len⟩ : ARange).pv] (.tup [ove.pv, .nilI])) (h5 : t_19 ≠ 0) (h6 : Contract prg 86 [site_5.pv, ove.pv] hul.pv) (h7 : (t_19 + 1) < 9223372036854775808) (hL : Loop1 l (t_19 + 1) hul r) : Loop1 l t_19 site_5 r :=
  L.go mixed tabOk (n := 183) (ns := [1, 3, 1, 1, 1, 1, 1]) (tr := [.auto, .reg [], .dec true, .reg [.none, (.row t_19 ((lcell ARat.cells) v))], .reg [.none, .none, .none, (.pv len.pv), .none, (.pv (.tup [ove.pv, .nilI]))], .reg [], .auto, .reg [], .dec false, .reg [.none, .none, (.pv hul.pv)], .reg [(iI (((t_19 + 1) : Nat) : Int))], .keep [1, 2, 5, 17, 18, 19], .drop [8]]) (cj (dltN_t h1) (cj (o_at (lcell ARat.cells) (Eq.refl (((t_19 : Nat) : Int) : Int)) h2) (cj h3 (cj h4 (cj (deqN_f h5) (cj h6 (cj (bs_addN h7) True.intro))))))) (by kernel_rfl) hL
theorem l13 (l : ALaw) (t_19 : Nat) (site_5 : ARange) (h1 : l.pieces.length ≤ t_19) : Loop1 l t_19 site_5 (.tup [site_5.pv, .nilI]) :=
  L.done mixed tabOk (n := 141) (ns := [1]) (tr := [.auto, .reg [], .dec false, .reg []]) (cj (dltN_f h1) True.intro) (by kernel_rfl)
end law_Bounds
namespace law_Dwells
@[reducible] noncomputable def fn : Func := Tryz.f35
noncomputable def atK1 : List Itm := focus [0, 2, 0, 0, 2, 0, 2, 1, 2, 0, 2, 0, 2, 0, 0, 2, 0, 0] [.code (bodyOf fn)]
def inv1 (len_62 : Nat) (open_6 : Bool) (l : ALaw) (t_17 : Nat) (site_62 : List AArc) : St := ⟨[(1, (.ptr 1 0)), (5, (.row 62 0 len_62 6)), (6, (eB open_6)), (15, (.pv (lpv (lcell ARat.cells) l.pieces))), (16, (eI (l.pieces.length : Int))), (17, (eI (t_17 : Int)))], [(1, (.lit [(.pv (polyPV l.breaks)), (.pv (lpv (lcell ARat.cells) l.pieces))])), (62, (.pure ((site_62 : List AArc).map AArc.cells).flatten))]⟩
@[reducible] noncomputable def Loop1 (len_62 : Nat) (open_6 : Bool) (l : ALaw) (t_17 : Nat) (site_62 : List AArc) (r : PV) : Prop := L prg fn atK1 (inv1 len_62 open_6 l t_17 site_62) r
theorem e0 (l : ALaw) {r : PV} (h1 : Contract prg 24 [l.pv] .nilI) (hL : Loop1 0 false l 0 [] r) : Contract prg 35 [l.pv] r :=
  Contract.ofL Tryz.func35 (by kernel_rfl) (L.go mixed tabOk (n := 114) (ns := [1, 1]) (tr := [.reg [], .reg [.none, (.pv .nilI)], .reg [], .auto, .reg [.nil], .adopt 5 62 6, .reg [], .reg [.none, .none, (iI (l.pieces.length : Int))], .keep [1, 5, 6, 15, 16, 17], .ord [1, 62]]) (cj h1 (cj (o_len (lcell ARat.cells) l.pieces) True.intro)) (by kernel_rfl) hL)
theorem l10 (len_62 : Nat) (open_6 : Bool) (l : ALaw) (t_17 : Nat) (site_62 : List AArc) (v : List ARat) {r : PV} (h1 : t_17 < l.pieces.length) (h2 : l.pieces[t_17]? = some v) (h3 : 1 < v.length) (h4 : (t_17 + 1) < 9223372036854775808) (hL : Loop1 len_62 false l (t_17 + 1) site_62 r) : Loop1 len_62 open_6 l t_17 site_62 r :=
  L.go mixed tabOk (n := 174) (ns := [1, 3, 1, 1, 1]) (tr := [.auto, .reg [], .dec true, .reg [.none, (.row t_17 ((lcell ARat.cells) v))], .reg [.none, (iI (v.length : Int))], .dec true, .reg [], .reg [(iI (((t_17 + 1) : Nat) : Int))], .keep [1, 5, 6, 15, 16, 17]]) (cj (dltN_t h1) (cj (o_at (lcell ARat.cells) (Eq.refl (((t_17 : Nat) : Int) : Int)) h2) (cj (o_len ARat.cells v) (cj (dltN_t h3) (cj (bs_addN h4) True.intro))))) (by kernel_rfl) hL
theorem l11 (len_62 : Nat) (open_6 : Bool) (l : ALaw) (t_17 : Nat) (site_62 : List AArc) (v : List ARat) (k : Nat) (v1 : List ARat) (sam : Bool) (endV add : ARat) (k1 : Nat) (v2 : AArc) {r : PV} (h1 : t_17 < l.pieces.length) (h2 : l.pieces[t_17]? = some v) (h3 : v.length ≤ 1) (h4 : open_6 = true) (h5 : InI64 ((t_17 : Int) - 1)) (h6 : ((t_17 : Int) - 1) = (k : Int)) (h7 : l.pieces[k]? = some v1) (h8 : Contract prg 87 [(polyPV v1), (polyPV v)] (vB sam)) (h9 : sam = true) (h10 : InI64 ((len_62 : Int) - 1)) (h11 : Contract prg 88 [l.pv, (vI (t_17 : Int))] endV.pv) (h12 : Contract prg 32 [endV.pv, (⟨false, [], []⟩ : ARat).pv] add.pv) (h13 : ((len_62 : Int) - 1) = (k1 : Int)) (h14 : k1 < len_62) (h15 : site_62[k1]? = some v2) (h16 : (t_17 + 1) < 9223372036854775808) (hL : Loop1 len_62 true l (t_17 + 1) (site_62.set k1 (⟨v2.fromV, add⟩ : AArc)) r) : Loop1 len_62 open_6 l t_17 site_62 r :=
  L.go mixed tabOk (n := 183) (ns := [1, 3, 1, 1, 1, 1, 1, 1, 1, 1, 3, 1, 1, 1, 1, 1, 1, 1, 1, 1, 2, 2, 1]) (tr := [.auto, .reg [], .dec true, .reg [.none, (.row t_17 ((lcell ARat.cells) v))], .reg [.none, (iI (v.length : Int))], .dec false, .reg [.none, .none, .none, .none, .none, (iI ((t_17 : Int) - 1)), (.row k ((lcell ARat.cells) v1)), .none, .none, (.pv (vB sam)), (.dec true)], .dec true, .reg [.none, .none, .none, (iI ((len_62 : Int) - 1)), .none, .none, (.pv endV.pv), .none, (.pv add.pv), (.nat k1), .none, (.cells (.pure (((site_62.set k1 (⟨v2.fromV, add⟩ : AArc)) : List AArc).map AArc.cells).flatten))], .reg [], .reg [(iI (((t_17 + 1) : Nat) : Int))], .keep [1, 5, 6, 15, 16, 17]]) (cj (dltN_t h1) (cj (o_at (lcell ARat.cells) (Eq.refl (((t_17 : Nat) : Int) : Int)) h2) (cj (o_len ARat.cells v) (cj (dltN_f h3) (cj h4 (cj h4 (cj h4 (cj h4 (cj (bs_sub h5) (cj h4 (cj (o_at (lcell ARat.cells) h6 h7) (cj h4 (cj h4 (cj h4 (cj h8 (cj h4 (cj h9 (cj (bs_sub h10) (cj h11 (cj h12 (cj (cj h13 h14) (cj (o_setp sz_AArc h15 3 [(vB add.neg), (wordsPV add.num), (wordsPV add.den)] (⟨v2.fromV, add⟩ : AArc) rfl rfl) (cj (bs_addN h16) True.intro))))))))))))))))))))))) (by kernel_rfl) hL
theorem l12 (len_62 : Nat) (open_6 : Bool) (l : ALaw) (t_17 : Nat) (site_62 : List AArc) (v : List ARat) (k : Nat) (v1 : List ARat) (sam : Bool) (v2 add endV add1 : ARat) {r : PV} (h1 : t_17 < l.pieces.length) (h2 : l.pieces[t_17]? = some v) (h3 : v.length ≤ 1) (h4 : open_6 = true) (h5 : InI64 ((t_17 : Int) - 1)) (h6 : ((t_17 : Int) - 1) = (k : Int)) (h7 : l.pieces[k]? = some v1) (h8 : Contract prg 87 [(polyPV v1), (polyPV v)] (vB sam)) (h9 : sam = false) (h10 : l.breaks[t_17]? = some v2) (h11 : Contract prg 32 [v2.pv, (⟨false, [], []⟩ : ARat).pv] add.pv) (h12 : Contract prg 88 [l.pv, (vI (t_17 : Int))] endV.pv) (h13 : Contract prg 32 [endV.pv, (⟨false, [], []⟩ : ARat).pv] add1.pv) (h14 : site_62.length = len_62) (h15 : ((site_62 ++ [(⟨add, add1⟩ : AArc)]) : List AArc).length * 112 ≤ 140737488355328) (h16 : (t_17 + 1) < 9223372036854775808) (hL : Loop1 ((site_62 ++ [(⟨add, add1⟩ : AArc)]).length) true l (t_17 + 1) (site_62 ++ [(⟨add, add1⟩ : AArc)]) r) : Loop1 len_62 open_6 l t_17 site_62 r :=
  L.go mixed tabOk (n := 183) (ns := [1, 3, 1, 1, 1, 1, 1, 1, 1, 1, 3, 1, 1, 1, 1, 1, 1, 3, 1, 1, 1, 6, 1]) (tr := [.auto, .reg [], .dec true, .reg [.none, (.row t_17 ((lcell ARat.cells) v))], .reg [.none, (iI (v.length : Int))], .dec false, .reg [.none, .none, .none, .none, .none, (iI ((t_17 : Int) - 1)), (.row k ((lcell ARat.cells) v1)), .none, .none, (.pv (vB sam)), (.dec true)], .dec false, dr 15 2 [.none, .none, .none, .none, (.row t_17 (ARat.cells v2)), .none, .none, (.pv add.pv), .none, .none, (.pv endV.pv), .none, (.pv add1.pv), .none, .none, (.app ((site_62 ++ [(⟨add, add1⟩ : AArc)]) : List AArc).length (((site_62 ++ [(⟨add, add1⟩ : AArc)]) : List AArc).map AArc.cells).flatten)], .reg [], .reg [(iI (((t_17 + 1) : Nat) : Int))], .keep [1, 5, 6, 15, 16, 17], .drop [61], .ord [1, 62]]) (cj (dltN_t h1) (cj (o_at (lcell ARat.cells) (Eq.refl (((t_17 : Nat) : Int) : Int)) h2) (cj (o_len ARat.cells v) (cj (dltN_f h3) (cj h4 (cj h4 (cj h4 (cj h4 (cj (bs_sub h5) (cj h4 (cj (o_at (lcell ARat.cells) h6 h7) (cj h4 (cj h4 (cj h4 (cj h8 (cj h4 (cj h9 (cj (o_at ARat.cells (Eq.refl (((t_17 : Nat) : Int) : Int)) h10) (cj h11 (cj h12 (cj h13 (cj (o_appR sz_AArc (site_62 : List AArc) ([(⟨add, add1⟩ : AArc)] : List AArc) 112 h14 (Eq.refl ([(⟨add, add1⟩ : AArc)] : List AArc).length) h15 rfl) (cj (bs_addN h16) True.intro))))))))))))))))))))))) (by kernel_rfl) hL
theorem l13 (len_62 : Nat) (open_6 : Bool) (l : ALaw) (t_17 : Nat) (site_62 : List AArc) (v : List ARat) (v1 add endV add1 : ARat) {r : PV} (h1 : t_17 < l.pieces.length) (h2 : l.pieces[t_17]? = some v) (h3 : v.length ≤ 1) (h4 : open_6 = false) (h5 : l.breaks[t_17]? = some v1) (h6 : Contract prg 32 [v1.pv, (⟨false, [], []⟩ : ARat).pv] add.pv) (h7 : Contract prg 88 [l.pv, (vI (t_17 : Int))] endV.pv) (h8 : Contract prg 32 [endV.pv, (⟨false, [], []⟩ : ARat).pv] add1.pv) (h9 : site_62.length = len_62) (h10 : ((site_62 ++ [(⟨add, add1⟩ : AArc)]) : List AArc).length * 112 ≤ 140737488355328) (h11 : (t_17 + 1) < 9223372036854775808) (hL : Loop1 ((site_62 ++ [(⟨add, add1⟩ : AArc)]).length) true l (t_17 + 1) (site_62 ++ [(⟨add, add1⟩ : AArc)]) r) : Loop1 len_62 open_6 l t_17 site_62 r :=
  L.go mixed tabOk (n := 183) (ns := [1, 3, 1, 1, 1, 1, 1, 1, 1, 1, 1, 1, 1, 3, 1, 1, 1, 6, 1]) (tr := [.auto, .reg [], .dec true, .reg [.none, (.row t_17 ((lcell ARat.cells) v))], .reg [.none, (iI (v.length : Int))], .dec false, .reg [.none, .none, .skip, .skip, .skip, .skip, .skip, .skip, .skip, .skip, (.dec false)], .auto, dr 15 2 [.none, .none, .none, .none, (.row t_17 (ARat.cells v1)), .none, .none, (.pv add.pv), .none, .none, (.pv endV.pv), .none, (.pv add1.pv), .none, .none, (.app ((site_62 ++ [(⟨add, add1⟩ : AArc)]) : List AArc).length (((site_62 ++ [(⟨add, add1⟩ : AArc)]) : List AArc).map AArc.cells).flatten)], .reg [], .reg [(iI (((t_17 + 1) : Nat) : Int))], .keep [1, 5, 6, 15, 16, 17], .drop [61], .ord [1, 62]]) (cj (dltN_t h1) (cj (o_at (lcell ARat.cells) (Eq.refl (((t_17 : Nat) : Int) : Int)) h2) (cj (o_len ARat.cells v) (cj (dltN_f h3) (cj h4 (cj h4 (cj h4 (cj h4 (cj h4 (cj h4 (cj h4 (cj h4 (cj h4 (cj (o_at ARat.cells (Eq.refl (((t_17 : Nat) : Int) : Int)) h5) (cj h6 (cj h7 (cj h8 (cj (o_appR sz_AArc (site_62 : List AArc) ([(⟨add, add1⟩ : AArc)] : List AArc) 112 h9 (Eq.refl ([(⟨add, add1⟩ : AArc)] : List AArc).length) h10 rfl) (cj (bs_addN h11) True.intro))))))))))))))))))) (by kernel_rfl) hL
theorem l14 (len_62 : Nat) (open_6 : Bool) (l : ALaw) (t_17 : Nat) (site_62 : List AArc) (h1 : l.pieces.length ≤ t_17) (h2 : len_62 = site_62.length) : Loop1 len_62 open_6 l t_17 site_62 (.tup [(lpv AArc.cells site_62), .nilI]) :=
  L.done mixed tabOk (n := 147) (ns := [1, 3]) (tr := [.auto, .reg [], .dec false, .reg [], .frzT 2 ((site_62 : List AArc).map AArc.cells)]) (cj (dltN_f h1) (cj (o_frz sz_AArc (site_62 : List AArc) h2) True.intro)) (by kernel_rfl)
end law_Dwells
namespace linkworkref52_Frac
theorem e0 (x : ARat) (flo of : AWhole) (fro : ARat) (fro1 : Int) (sub : ARat) (h1 : Contract prg 91 [x.pv] flo.pv) (h2 : Contract prg 92 [(vI 1)] of.pv) (h3 : Contract prg 90 [flo.pv, of.pv] (.tup [fro.pv, (vI fro1)])) (h4 : Contract prg 56 [x.pv, fro.pv] sub.pv) : Contract prg 37 [x.pv] sub.pv :=
  Contract.ofL Tryz.func37 (by kernel_rfl) (L.done mixed tabOk (n := 78) (ns := [1, 1, 1, 1]) (tr := [.reg [], .reg [.none, (.pv flo.pv), (.pv of.pv), (.pv (.tup [fro.pv, (vI fro1)]))], .reg [.none, .none, (.pv sub.pv)]]) (cj h1 (cj h2 (cj h3 (cj h4 True.intro)))) (by kernel_rfl))
end linkworkref52_Frac
namespace law_one
theorem e0 (of : ARat) (h1 : Contract prg 33 [(vI 1)] of.pv) : Contract prg 53 [] of.pv :=
  Contract.ofL Tryz.func53 (by kernel_rfl) (L.done mixed tabOk (n := 72) (ns := [1]) (tr := [.reg [], .reg [(.pv of.pv)]]) (cj h1 True.intro) (by kernel_rfl))
end law_one
namespace law_wrapped
theorem e0 (x : ARat) (flo who : AWhole) (fro sub : ARat) (h1 : Contract prg 117 [x.pv] flo.pv) (h2 : Contract prg 118 [] who.pv) (h3 : Contract prg 111 [flo.pv, who.pv] (.tup [fro.pv, .nilI])) (h4 : Contract prg 51 [x.pv, fro.pv] sub.pv) : Contract prg 66 [x.pv] (.tup [sub.pv, .nilI]) :=
  Contract.ofL Tryz.func66 (by kernel_rfl) (L.done mixed tabOk (n := 93) (ns := [1, 1, 1, 1]) (tr := [.reg [], .reg [.none, (.pv flo.pv), (.pv who.pv), (.pv (.tup [fro.pv, .nilI]))], .reg [], .auto, .reg [.none, .none, (.pv sub.pv)]]) (cj h1 (cj h2 (cj h3 (cj h4 True.intro)))) (by kernel_rfl))
end law_wrapped
namespace law_piece
@[reducible] noncomputable def fn : Func := Tryz.f67
noncomputable def atK1 : List Itm := focus [0, 2, 0, 2, 0, 0, 0] [.code (bodyOf fn)]
def inv1 (i_5 : Int) (l : ALaw) (x : ARat) : St := ⟨[(2, (.ptr 2 0)), (3, (.ptr 3 0)), (5, (eI i_5))], [(2, (.lit [(.pv (polyPV l.breaks)), (.pv (lpv (lcell ARat.cells) l.pieces))])), (3, (.lit [(eB x.neg), (.pv (wordsPV x.num)), (.pv (wordsPV x.den))]))]⟩
@[reducible] noncomputable def Loop1 (i_5 : Int) (l : ALaw) (x : ARat) (r : PV) : Prop := L prg fn atK1 (inv1 i_5 l x) r
theorem e0 (l : ALaw) (x : ARat) {r : PV} (h1 : InI64 ((l.breaks.length : Int) - 1)) (hL : Loop1 ((l.breaks.length : Int) - 1) l x r) : Contract prg 67 [l.pv, x.pv] r :=
  Contract.ofL Tryz.func67 (by kernel_rfl) (L.go mixed tabOk (n := 81) (ns := [1, 1]) (tr := [.reg [], .reg [.none, .none, (iI (l.breaks.length : Int)), (iI ((l.breaks.length : Int) - 1))], .keep [2, 3, 5], .ord [2, 3]]) (cj (o_len ARat.cells l.breaks) (cj (bs_sub h1) True.intro)) (by kernel_rfl) hL)
theorem l10 (i_5 : Int) (l : ALaw) (x : ARat) (k : Nat) (v : ARat) (cmp : Int) {r : PV} (h1 : i_5 = (k : Int)) (h2 : l.breaks[k]? = some v) (h3 : Contract prg 38 [v.pv, x.pv] (vI cmp)) (h4 : 0 < cmp) (h5 : InI64 (i_5 - 1)) (hL : Loop1 (i_5 - 1) l x r) : Loop1 i_5 l x r :=
  L.go mixed tabOk (n := 108) (ns := [3, 1, 1, 1]) (tr := [.auto, dr 8 0 [.none, .none, .none, (.row k (ARat.cells v)), .none, .none, (.pv (vI cmp))], .dec true, .reg [.none, (iI (i_5 - 1))], .keep [2, 3, 5]]) (cj (o_at ARat.cells h1 h2) (cj h3 (cj (dlt_t h4) (cj (bs_sub h5) True.intro)))) (by kernel_rfl) hL
theorem l11 (i_5 : Int) (l : ALaw) (x : ARat) (k : Nat) (v : ARat) (cmp : Int) (h1 : i_5 = (k : Int)) (h2 : l.breaks[k]? = some v) (h3 : Contract prg 38 [v.pv, x.pv] (vI cmp)) (h4 : cmp ≤ 0) : Loop1 i_5 l x (vI i_5) :=
  L.done mixed tabOk (n := 114) (ns := [3, 1, 1]) (tr := [.auto, dr 8 0 [.none, .none, .none, (.row k (ARat.cells v)), .none, .none, (.pv (vI cmp))], .dec false, .reg []]) (cj (o_at ARat.cells h1 h2) (cj h3 (cj (dlt_f h4) True.intro))) (by kernel_rfl)
end law_piece
namespace law_length
theorem e0 (l : ALaw) (i : Int) (endV : ARat) (k : Nat) (v sub : ARat) (h1 : Contract prg 88 [l.pv, (vI i)] endV.pv) (h2 : i = (k : Int)) (h3 : l.breaks[k]? = some v) (h4 : Contract prg 51 [endV.pv, v.pv] sub.pv) : Contract prg 85 [l.pv, (vI i)] sub.pv :=
  Contract.ofL Tryz.func85 (by kernel_rfl) (L.done mixed tabOk (n := 72) (ns := [1, 3, 1]) (tr := [.reg [], dr 9 1 [.none, .none, (.pv endV.pv), .none, .none, .none, (.row k (ARat.cells v)), .none, (.pv sub.pv)]]) (cj h1 (cj (o_at ARat.cells h2 h3) (cj h4 True.intro))) (by kernel_rfl))
end law_length
namespace law_same
theorem e0 (p q : List ARat) (h1 : p.length = q.length) (h2 : p.length = 0) : Contract prg 87 [(polyPV p), (polyPV q)] (vB true) :=
  Contract.ofL Tryz.func87 (by kernel_rfl) (L.done mixed tabOk (n := 72) (ns := [1, 1, 1, 1, 1, 1, 1, 1, 1, 1, 1, 1, 1, 1, 1, 1, 1, 1]) (tr := [.reg [], dr 20 1 [.none, (iI (p.length : Int)), .none, (iI (q.length : Int)), .none, .none, .none, (iI (p.length : Int)), .none, .none, .skip, .skip, .skip, .skip, .skip, .skip, .skip, .skip, (.dec true), (.dec true)]]) (cj (o_len ARat.cells p) (cj (o_len ARat.cells q) (cj (deqN_t h1) (cj (deqN_t h1) (cj (o_len ARat.cells p) (cj (deqN_t h1) (cj (deqN_t h1) (cj (deqN_t h2) (cj (deqN_t h2) (cj (deqN_t h2) (cj (deqN_t h2) (cj (deqN_t h2) (cj (deqN_t h2) (cj (deqN_t h2) (cj (deqN_t h2) (cj (deqN_t h1) (cj (deqN_t h2) (cj (deqN_t h1) True.intro)))))))))))))))))) (by kernel_rfl))
theorem e1 (p q : List ARat) (v v1 : ARat) (cmp : Int) (h1 : p.length = q.length) (h2 : p.length ≠ 0) (h3 : p[0]? = some v) (h4 : q[0]? = some v1) (h5 : Contract prg 38 [v.pv, v1.pv] (vI cmp)) : Contract prg 87 [(polyPV p), (polyPV q)] (vB (cmp == 0)) :=
  Contract.ofL Tryz.func87 (by kernel_rfl) (L.done mixed tabOk (n := 72) (ns := [1, 1, 1, 1, 1, 1, 1, 1, 1, 3, 1, 1, 1, 3, 1, 1, 1, 1, 1, 1, 1]) (tr := [.reg [], dr 20 1 [.none, (iI (p.length : Int)), .none, (iI (q.length : Int)), .none, .none, .none, (iI (p.length : Int)), .none, .none, .none, (.row 0 (ARat.cells v)), .none, .none, (.row 0 (ARat.cells v1)), .none, (.pv (vI cmp)), .none, (.dec false), (.dec true)]]) (cj (o_len ARat.cells p) (cj (o_len ARat.cells q) (cj (deqN_t h1) (cj (deqN_t h1) (cj (o_len ARat.cells p) (cj (deqN_t h1) (cj (deqN_t h1) (cj (deqN_f h2) (cj (deqN_f h2) (cj (o_at ARat.cells (Eq.refl (0 : Int)) h3) (cj (deqN_f h2) (cj (deqN_f h2) (cj (deqN_f h2) (cj (o_at ARat.cells (Eq.refl (0 : Int)) h4) (cj (deqN_f h2) (cj (deqN_f h2) (cj h5 (cj (deqN_f h2) (cj (deqN_t h1) (cj (deqN_f h2) (cj (deqN_t h1) True.intro))))))))))))))))))))) (by kernel_rfl))
theorem e2 (p q : List ARat) (h1 : p.length ≠ q.length) : Contract prg 87 [(polyPV p), (polyPV q)] (vB false) :=
  Contract.ofL Tryz.func87 (by kernel_rfl) (L.done mixed tabOk (n := 72) (ns := [1, 1, 1, 1, 1, 1, 1, 1]) (tr := [.reg [], dr 20 1 [.none, (iI (p.length : Int)), .none, (iI (q.length : Int)), .none, .none, .skip, .skip, .skip, .skip, .skip, .skip, .skip, .skip, .skip, .skip, .skip, .skip, .skip, (.dec false)]]) (cj (o_len ARat.cells p) (cj (o_len ARat.cells q) (cj (deqN_f h1) (cj (deqN_f h1) (cj (deqN_f h1) (cj (deqN_f h1) (cj (deqN_f h1) (cj (deqN_f h1) True.intro)))))))) (by kernel_rfl))
end law_same
namespace law_end
theorem e0 (l : ALaw) (i : Int) (k : Nat) (v : ARat) (h1 : InI64 (i + 1)) (h2 : (i + 1) < (l.breaks.length : Int)) (h3 : (i + 1) = (k : Int)) (h4 : l.breaks[k]? = some v) : Contract prg 88 [l.pv, (vI i)] v.pv :=
  Contract.ofL Tryz.func88 (by kernel_rfl) (L.done mixed tabOk (n := 84) (ns := [1, 1, 1, 1, 3]) (tr := [.reg [], .reg [.none, (iI (i + 1)), .none, .none, (iI (l.breaks.length : Int))], .dec true, .reg [.none, .none, .none, (iI (i + 1)), (.row k (ARat.cells v))]]) (cj (bs_add h1) (cj (o_len ARat.cells l.breaks) (cj (dlt_t h2) (cj (bs_add h1) (cj (o_at ARat.cells h3 h4) True.intro))))) (by kernel_rfl))
theorem e1 (l : ALaw) (i : Int) (one : ARat) (h1 : InI64 (i + 1)) (h2 : (l.breaks.length : Int) ≤ (i + 1)) (h3 : Contract prg 53 [] one.pv) : Contract prg 88 [l.pv, (vI i)] one.pv :=
  Contract.ofL Tryz.func88 (by kernel_rfl) (L.done mixed tabOk (n := 87) (ns := [1, 1, 1, 1]) (tr := [.reg [], .reg [.none, (iI (i + 1)), .none, .none, (iI (l.breaks.length : Int))], .dec false, .reg [(.pv one.pv)]]) (cj (bs_add h1) (cj (o_len ARat.cells l.breaks) (cj (dlt_f h2) (cj h3 True.intro)))) (by kernel_rfl))
end law_end
namespace law_whole
theorem e0   : Contract prg 118 [] ((⟨false, [(1 : UInt32)]⟩ : AWhole).pv) :=
  Contract.ofL Tryz.func118 (by kernel_rfl) (L.done mixed tabOk (n := 72) (ns := [3]) (tr := [.reg [], .reg [(.slc 0 0 (([(1 : UInt32)] : List UInt32).map wordPV))]]) (cj (o_bs sz_word ([(1 : UInt32)] : List UInt32)) True.intro) (by kernel_rfl))
end law_whole
end Go.Proofs.YtcgbmnkgmepikaaGreat.Sym.Path
namespace Go.Proofs.YtcgbmnkgmepikaaGreat.Sym
open Go Path CInt
set_option linter.unusedVariables false
namespace CLw
theorem one : Contract prg 53 [] (mkR (1 : Int)).pv := law_one.e0 _ (CFr.Of 1 (by unfold InI64; omega))
theorem Check2 (l : ALaw) (hl : l.pieces.length < 4611686018427387904) (hf : ∀ p ∈ l.pieces, FitP 274877906944 p) : ∀ (j t : Nat), l.pieces.length - t = j → law_Check.Loop2 l t (errPV (errOf (chkP (l.pieces.drop t)))) := by
  intro j
  induction j with
  | zero =>
    intro t hj
    rw [List.drop_of_length_le (by omega)]
    exact law_Check.l23 l t (by omega)
  | succ j ih =>
    intro t hj
    obtain ⟨v, hv⟩ : ∃ v, l.pieces[t]? = some v := ⟨_, List.getElem?_eq_getElem (by omega)⟩
    have hvf := hf v (List.mem_of_getElem? hv)
    have hc := CPo.Check v hvf
    rw [drop_cons hv, chkP]
    by_cases h0 : chk v = 0
    · rw [decide_eq_false (by simpa using h0), cond_false]
      rw [h0] at hc
      have hd := poly_Degree.e0 v (by have := chk_len h0; unfold InI64; omega)
      by_cases h9 : 9 < v.length
      · rw [show Nat.blt 9 v.length = true from by simpa [Nat.blt_eq] using h9, cond_true]
        exact law_Check.l20 l t v _ (by omega) hv hc hd (by omega)
      · rw [show Nat.blt 9 v.length = false from by cases hb : Nat.blt 9 v.length with
          | false => rfl
          | true => exact absurd (by simpa [Nat.blt_eq] using hb) h9, cond_false]
        exact law_Check.l21 l t v _ (by omega) hv hc hd (by omega) (by omega) (ih (t + 1) (by omega))
    · rw [decide_eq_true h0, cond_true]
      rw [errOf_ne h0] at hc ⊢
      exact law_Check.l22 l t v _ (by omega) hv hc
theorem Check (l : ALaw) (hf : FitW 1073741824 l) : Contract prg 24 [l.pv] (errPV (errOf (chkLaw l))) := by
  unfold chkLaw
  by_cases h0 : l.breaks.length = 0
  · rw [if_pos (Or.inl h0)]; exact law_Check.e0 l h0
  by_cases h1 : l.breaks.length = l.pieces.length
  · rw [if_neg (by intro h; rcases h with h | h <;> omega)]
    by_cases h2 : 16 < l.breaks.length
    · rw [if_pos h2]; exact law_Check.e2 l h0 h1 h2
    · rw [if_neg h2]
      have hps : ∀ p ∈ l.pieces, FitP 274877906944 p := fun p hp a ha => ⟨by have := (hf.2 p hp a ha).1; omega, by have := (hf.2 p hp a ha).2; omega⟩
      have loop : ∀ (j t : Nat) (p : Option Rat), l.breaks.length - t = j → t ≤ l.breaks.length → (t = 0 → p = none) → (∀ k v, t = k + 1 → l.breaks[k]? = some v → p = some v.val) → law_Check.Loop1 l t (errPV (errOf (chkR p (l.breaks.drop t) l.pieces))) := by
        intro j
        induction j with
        | zero =>
          intro t p hj ht _ _
          rw [List.drop_of_length_le (by omega), chkR_nil]
          refine law_Check.l110 l t (by omega) ?_
          have := Check2 l (by omega) hps _ 0 rfl
          rwa [List.drop_zero] at this
        | succ j ih =>
          intro t p hj ht hp0 hp
          obtain ⟨v, hv⟩ : ∃ v, l.breaks[t]? = some v := ⟨_, List.getElem?_eq_getElem (by omega)⟩
          have hvf := hf.1 v (List.mem_of_getElem? hv)
          have hva := CFr.Valid v ⟨by omega, by omega⟩
          have hsg := CFr.Sign v ⟨by omega, by omega⟩
          have hone := one
          have hcm := CFr.Cmp v (mkR (1 : Int)) ⟨by omega, by omega⟩ ⟨by decide, by decide⟩
          rw [mkR_val, show ((1 : Int) : Rat) = 1 from rfl] at hcm
          rw [drop_cons hv]
          cases hvv : v.valid with
          | false =>
            rw [chkR_stop (chkB_out (outB_inv hvv)) (by omega)]
            exact law_Check.l10 l t v _ (by omega) hv hva hvv
          | true =>
            by_cases hs : v.val < 0
            · rw [chkR_stop (chkB_out (outB_lt hs)) (by omega)]
              exact law_Check.l11 l t v _ _ (by omega) hv hva hvv hsg (cmpR_lt.2 hs)
            · have hs' : 0 ≤ cmpR v.val 0 := cmpR_ge.2 (by grind)
              by_cases hc : 1 ≤ v.val
              · rw [chkR_stop (chkB_out (outB_ge hc)) (by omega)]
                exact law_Check.l12 l t v _ _ _ _ (by omega) hv hva hvv hsg hs' hone hcm (cmpR_ge.2 hc)
              · have ho := outB_no hvv hs hc
                have hc' : cmpR v.val 1 < 0 := cmpR_lt.2 (by grind)
                by_cases ht0 : t = 0
                · have := hp0 ht0
                  subst this
                  by_cases hz : v.val = 0
                  · rw [chkR_cons ho (by unfold badB; exact decide_eq_false (by simpa using hz))]
                    refine law_Check.l16 l t v _ _ _ _ _ (by omega) hv hva hvv hsg hs' hone hcm hc' ht0 hsg (cmpR_eq.2 hz) (by omega) (by omega) (ih (t + 1) _ (by omega) (by omega) (by omega) ?_)
                    intro k u hk hu
                    have : k = t := by omega
                    subst this
                    rw [hv] at hu; injection hu with hu; rw [hu]
                  · rw [chkR_stop (chkB_bad ho (by unfold badB; exact decide_eq_true hz)) (by omega)]
                    exact law_Check.l13 l t v _ _ _ _ _ (by omega) hv hva hvv hsg hs' hone hcm hc' ht0 hsg (fun e => hz (cmpR_eq.1 e))
                · obtain ⟨k, hk⟩ : ∃ k, t = k + 1 := ⟨t - 1, by omega⟩
                  obtain ⟨u, hu⟩ : ∃ u, l.breaks[k]? = some u := ⟨_, List.getElem?_eq_getElem (by omega)⟩
                  have := hp k u hk hu
                  subst this
                  have huf := hf.1 u (List.mem_of_getElem? hu)
                  have hcu := CFr.Cmp v u ⟨by omega, by omega⟩ ⟨by omega, by omega⟩
                  by_cases hz : v.val ≤ u.val
                  · rw [chkR_stop (chkB_bad ho (by unfold badB; exact decide_eq_true hz)) (by omega)]
                    exact law_Check.l17 l t v _ _ _ _ k u _ (by omega) hv hva hvv hsg hs' hone hcm hc' ht0 (by omega) (by unfold InI64; omega) (by omega) hu hcu (cmpR_le.2 hz)
                  · rw [chkR_cons ho (by unfold badB; exact decide_eq_false hz)]
                    refine law_Check.l18 l t v _ _ _ _ k u _ (by omega) hv hva hvv hsg hs' hone hcm hc' ht0 (by omega) (by unfold InI64; omega) (by omega) hu hcu (cmpR_gt.2 (by grind)) (by omega) (ih (t + 1) _ (by omega) (by omega) (by omega) ?_)
                    intro k' u' hk' hu'
                    have : k' = t := by omega
                    subst this
                    rw [hv] at hu'; injection hu' with hu'; rw [hu']
      refine law_Check.e3 l h0 h1 (by omega) ?_
      have := loop _ 0 none rfl (by omega) (fun _ => rfl) (fun k v h => by omega)
      rwa [List.drop_zero] at this
  · rw [if_pos (Or.inr h1)]; exact law_Check.e1 l h0 h1
theorem wrapped (x : ARat) (h : x.num.length ≤ 1073741824 ∧ x.den.length ≤ 1073741824) : Contract prg 66 [x.pv] (.tup [(mkR (frac x.val)).pv, .nilI]) := by
  obtain ⟨f1, f2⟩ := h
  have hh := ht_fit (k := 1073741824) f1 f2 (by omega)
  have hfl := CFr.Floor x ⟨by omega, by omega⟩
  have hw := wl_floor x.val
  have hfr := CFr.From (Sym.whole x.val.floor) (⟨false, [(1 : UInt32)]⟩ : AWhole) (show wl _ ≤ _ by omega) (by decide) (by decide)
  rw [whole_val, show Rat.divInt x.val.floor (⟨false, [(1 : UInt32)]⟩ : AWhole).val = (x.val.floor : Rat) from by rw [show (⟨false, [(1 : UInt32)]⟩ : AWhole).val = 1 from rfl, Rat.divInt_eq_div]; grind] at hfr
  have hi := ht_int x.val.floor
  have hs := CFr.Sub x (mkR (x.val.floor : Rat)) ⟨by omega, by omega⟩ (fit_mkR (by omega))
  rw [mkR_val] at hs
  exact law_wrapped.e0 x _ _ _ _ hfl law_whole.e0 hfr hs
theorem piece (l : ALaw) (x : ARat) (g : Good l) (hf : FitP 1073741824 l.breaks) (hx : x.num.length ≤ 1073741824 ∧ x.den.length ≤ 1073741824) (h0 : 0 ≤ x.val) : Contract prg 67 [l.pv, x.pv] (vI (pieceL (vals l.breaks) x.val : Nat)) := by
  have hlen : (vals l.breaks).length = l.breaks.length := by unfold vals; rw [List.length_map]
  have hle := g.le
  have hn0 := g.n0
  have loop : ∀ (n : Nat), n < l.breaks.length → (∀ b, (vals l.breaks)[n + 1]? = some b → x.val < b) → law_piece.Loop1 (n : Int) l x (vI (pieceL (vals l.breaks) x.val : Nat)) := by
    intro n
    induction n with
    | zero =>
      intro hn hup
      obtain ⟨v, hv⟩ : ∃ v, l.breaks[0]? = some v := ⟨_, List.getElem?_eq_getElem (by omega)⟩
      have hvf := hf v (List.mem_of_getElem? hv)
      have hc := CFr.Cmp v x ⟨by omega, by omega⟩ ⟨by omega, by omega⟩
      have e := g.first v hv
      have hp : pieceL (vals l.breaks) x.val = 0 := by
        refine pieceF_eq _ _ 0 (fun j b hj => by omega) (fun b hb => hup b ?_) (by omega)
        rw [List.getElem?_drop] at hb; rw [Nat.add_comm]; exact hb
      rw [hp]
      refine law_piece.l11 _ l x 0 v _ (by omega) hv hc (cmpR_le.2 (by grind))
    | succ n ih =>
      intro hn hup
      obtain ⟨v, hv⟩ : ∃ v, l.breaks[n + 1]? = some v := ⟨_, List.getElem?_eq_getElem (by omega)⟩
      have hvf := hf v (List.mem_of_getElem? hv)
      have hvv : (vals l.breaks)[n + 1]? = some v.val := by unfold vals; rw [List.getElem?_map, hv]; rfl
      have hc := CFr.Cmp v x ⟨by omega, by omega⟩ ⟨by omega, by omega⟩
      by_cases hle2 : v.val ≤ x.val
      · have hp : pieceL (vals l.breaks) x.val = n + 1 := by
          refine pieceF_eq _ _ (n + 1) (fun j b hj hb => ?_) (fun b hb => hup b ?_) (by rw [List.length_drop]; omega)
          · rw [List.getElem?_drop] at hb
            by_cases hjn : j = n
            · subst hjn
              rw [Nat.add_comm, hvv] at hb; injection hb with hb; rw [← hb]; exact hle2
            · have h1 : 1 + j < (vals l.breaks).length := (List.getElem?_eq_some_iff.1 hb).1
              have h2 : n + 1 < (vals l.breaks).length := by omega
              have := List.pairwise_iff_getElem.1 g.asc (1 + j) (n + 1) h1 h2 (by omega)
              rw [(List.getElem?_eq_some_iff.1 hb).2, (List.getElem?_eq_some_iff.1 hvv).2] at this
              grind
          · rw [List.getElem?_drop] at hb; rw [Nat.add_comm]; exact hb
        rw [hp]
        refine law_piece.l11 _ l x (n + 1) v _ (by omega) hv hc (cmpR_le.2 (by grind))
      · refine law_piece.l10 _ l x (n + 1) v _ (by omega) hv hc (cmpR_gt.2 (by grind)) (by unfold InI64; omega) ?_
        have := ih (by omega) (fun b hb => by rw [hvv] at hb; injection hb with hb; rw [← hb]; grind)
        rwa [show ((n + 1 : Nat) : Int) - 1 = (n : Int) from by omega]
  have := loop (l.breaks.length - 1) (by omega) (fun b hb => by
    rw [List.getElem?_eq_none (by omega)] at hb; cases hb)
  refine law_piece.e0 l x (by unfold InI64; omega) ?_
  rwa [show ((l.breaks.length - 1 : Nat) : Int) = (l.breaks.length : Int) - 1 from by omega] at this
theorem frac_nonneg (x : Rat) : 0 ≤ frac x := by
  have := Rat.floor_le (a := x)
  unfold frac
  grind
theorem At (l : ALaw) (x : ARat) (hc : chkLaw l = 0) (hf : FitW 1048576 l) (hv : x.valid = true) (hx : x.num.length ≤ 1048576 ∧ x.den.length ≤ 1048576) : Contract prg 21 [l.pv, x.pv] (.tup [(mkR (atW l x.val)).pv, .nilI]) := by
  have g := good_of hc
  have hk := Check l ⟨fun a ha => ⟨by have := (hf.1 a ha).1; omega, by have := (hf.1 a ha).2; omega⟩, fun p hp a ha => ⟨by have := (hf.2 p hp a ha).1; omega, by have := (hf.2 p hp a ha).2; omega⟩⟩
  rw [hc] at hk
  have hva := CFr.Valid x ⟨by omega, by omega⟩
  have hw := wrapped x ⟨by omega, by omega⟩
  have hxv := hv
  obtain ⟨f1, f2⟩ := hx
  have hh := ht_fit (k := 1048576) f1 f2 (by omega)
  have hfr := ht_frac hh
  have hxf := fit_mkRk (k := 2097154) (q := frac x.val) (by omega)
  have hn0 := g.n0
  have hlen := g.len
  have hle := g.le
  have hlen2 : (vals l.breaks).length = l.breaks.length := by unfold vals; rw [List.length_map]
  have hlt := pieceL_lt (bs := vals l.breaks) (by omega) (frac x.val)
  obtain ⟨v, hv⟩ : ∃ v, l.breaks[pieceL (vals l.breaks) (frac x.val)]? = some v := ⟨_, List.getElem?_eq_getElem (by omega)⟩
  obtain ⟨p, hp⟩ : ∃ p, l.pieces[pieceL (vals l.breaks) (frac x.val)]? = some p := ⟨_, List.getElem?_eq_getElem (by omega)⟩
  have hvf := hf.1 v (List.mem_of_getElem? hv)
  have hpf := hf.2 p (List.mem_of_getElem? hp)
  have hvh := ht_fit hvf.1 hvf.2 (by omega)
  obtain ⟨hpc, hpl⟩ := g.ps p (List.mem_of_getElem? hp)
  have hsub := CFr.Sub (mkR (frac x.val)) v ⟨by omega, by omega⟩ ⟨by omega, by omega⟩
  rw [mkR_val] at hsub
  have hsf := fit_mkRk (k := 1073741824) (q := frac x.val - v.val) (by have := ht_sub (frac x.val) v.val; omega)
  have e : atW l x.val = evalL (vals p) (frac x.val - v.val) := by unfold atW; rw [List.getD_eq_getElem?_getD, List.getD_eq_getElem?_getD, hv, hp]; rfl
  rw [e]
  have hpi := piece l (mkR (frac x.val)) g (fun a ha => ⟨by have := (hf.1 a ha).1; omega, by have := (hf.1 a ha).2; omega⟩) ⟨by omega, by omega⟩ (by rw [mkR_val]; exact frac_nonneg _)
  rw [mkR_val] at hpi
  have hev := CPo.Eval p (mkR (frac x.val - v.val)) hpc (fun a ha => ⟨by have := (hpf a ha).1; omega, by have := (hpf a ha).2; omega⟩) hsf
  rw [mkR_val] at hev
  exact law_At.e1 l x _ _ _ _ p _ v _ _ none hk hva hxv hw hpi rfl hp rfl hv hsub hev
theorem end' (l : ALaw) (i : Nat) (hl : l.breaks.length ≤ 1073741824) (hi : i < l.breaks.length) (hv : l.breaks.all ARat.valid = true) : Contract prg 88 [l.pv, vI (i : Int)] (mkR (endW l i)).pv := by
  unfold endW
  cases h : l.breaks[i + 1]? with
  | some v =>
    have h1 := (List.getElem?_eq_some_iff.1 h).1
    show Contract prg _ _ (mkR v.val).pv
    rw [mkR_of (List.all_eq_true.1 hv v (List.mem_of_getElem? h))]
    exact law_end.e0 l i (i + 1) v (by unfold InI64; omega) (by omega) (by omega) h
  | none =>
    have h1 := List.getElem?_eq_none_iff.1 h
    exact law_end.e1 l i _ (by unfold InI64; omega) (by omega) one
end CLw
end Go.Proofs.YtcgbmnkgmepikaaGreat.Sym
namespace Go.Proofs.YtcgbmnkgmepikaaGreat.Sym
open Go Path CInt
set_option linter.unusedVariables false
namespace CRl
theorem Check2 (l : ALaw) (hl : l.pieces.length < 4611686018427387904) (hf : ∀ p ∈ l.pieces, FitP 274877906944 p) : ∀ (j t : Nat), l.pieces.length - t = j → linkworkref52_Check.Loop2 t l (vI (chkP (l.pieces.drop t))) := by
  intro j
  induction j with
  | zero =>
    intro t hj
    rw [List.drop_of_length_le (by omega)]
    exact linkworkref52_Check.l23 t l (by omega)
  | succ j ih =>
    intro t hj
    obtain ⟨v, hv⟩ : ∃ v, l.pieces[t]? = some v := ⟨_, List.getElem?_eq_getElem (by omega)⟩
    have hvf := hf v (List.mem_of_getElem? hv)
    have hc := CRe.Check v hvf
    rw [drop_cons hv, chkP]
    by_cases h0 : chk v = 0
    · rw [decide_eq_false (by simpa using h0), cond_false]
      by_cases h9 : 9 < v.length
      · rw [show Nat.blt 9 v.length = true from by simpa [Nat.blt_eq] using h9, cond_true]
        exact linkworkref52_Check.l21 t l v _ (by omega) hv hc h0 h9
      · rw [show Nat.blt 9 v.length = false from by cases hb : Nat.blt 9 v.length with
          | false => rfl
          | true => exact absurd (by simpa [Nat.blt_eq] using hb) h9, cond_false]
        exact linkworkref52_Check.l22 t l v _ (by omega) hv hc h0 (by omega) (by omega) (ih (t + 1) (by omega))
    · rw [decide_eq_true h0, cond_true]
      exact linkworkref52_Check.l20 t l v _ (by omega) hv hc h0
theorem Check (l : ALaw) (hf : FitW 1073741824 l) : Contract prg 23 [l.pv] (vI (chkLaw l)) := by
  unfold chkLaw
  by_cases h0 : l.breaks.length = 0
  · rw [if_pos (Or.inl h0)]; exact linkworkref52_Check.e0 l h0
  by_cases h1 : l.breaks.length = l.pieces.length
  · rw [if_neg (by intro h; rcases h with h | h <;> omega)]
    by_cases h2 : 16 < l.breaks.length
    · rw [if_pos h2]; exact linkworkref52_Check.e2 l h0 h1 h2
    · rw [if_neg h2]
      have hps : ∀ p ∈ l.pieces, FitP 274877906944 p := fun p hp a ha => ⟨by have := (hf.2 p hp a ha).1; omega, by have := (hf.2 p hp a ha).2; omega⟩
      have loop : ∀ (j t : Nat) (p : Option Rat), l.breaks.length - t = j → t ≤ l.breaks.length → (t = 0 → p = none) → (∀ k v, t = k + 1 → l.breaks[k]? = some v → p = some v.val) → linkworkref52_Check.Loop1 t l (vI (chkR p (l.breaks.drop t) l.pieces)) := by
        intro j
        induction j with
        | zero =>
          intro t p hj ht _ _
          rw [List.drop_of_length_le (by omega), chkR_nil]
          refine linkworkref52_Check.l110 t l (by omega) ?_
          have := Check2 l (by omega) hps _ 0 rfl
          rwa [List.drop_zero] at this
        | succ j ih =>
          intro t p hj ht hp0 hp
          obtain ⟨v, hv⟩ : ∃ v, l.breaks[t]? = some v := ⟨_, List.getElem?_eq_getElem (by omega)⟩
          have hvf := hf.1 v (List.mem_of_getElem? hv)
          have hva := CRb.Valid v ⟨by omega, by omega⟩
          have hsg := CRb.Sign v ⟨by omega, by omega⟩
          have hone := (CRb.Of 1 (by unfold InI64; omega))
          have hcm := CRb.Cmp v (mkR (1 : Int)) ⟨by omega, by omega⟩ ⟨by decide, by decide⟩
          rw [mkR_val, show ((1 : Int) : Rat) = 1 from rfl] at hcm
          rw [drop_cons hv]
          cases hvv : v.valid with
          | false =>
            rw [chkR_stop (chkB_out (outB_inv hvv)) (by omega)]
            exact linkworkref52_Check.l10 t l v _ (by omega) hv hva hvv
          | true =>
            by_cases hs : v.val < 0
            · rw [chkR_stop (chkB_out (outB_lt hs)) (by omega)]
              exact linkworkref52_Check.l11 t l v _ _ (by omega) hv hva hvv hsg (cmpR_lt.2 hs)
            · have hs' : 0 ≤ cmpR v.val 0 := cmpR_ge.2 (by grind)
              by_cases hc : 1 ≤ v.val
              · rw [chkR_stop (chkB_out (outB_ge hc)) (by omega)]
                exact linkworkref52_Check.l12 t l v _ _ _ _ (by omega) hv hva hvv hsg hs' hone hcm (cmpR_ge.2 hc)
              · have ho := outB_no hvv hs hc
                have hc' : cmpR v.val 1 < 0 := cmpR_lt.2 (by grind)
                by_cases ht0 : t = 0
                · have := hp0 ht0
                  subst this
                  by_cases hz : v.val = 0
                  · rw [chkR_cons ho (by unfold badB; exact decide_eq_false (by simpa using hz))]
                    refine linkworkref52_Check.l16 t l v _ _ _ _ _ (by omega) hv hva hvv hsg hs' hone hcm hc' ht0 hsg (cmpR_eq.2 hz) (by omega) (by omega) (ih (t + 1) _ (by omega) (by omega) (by omega) ?_)
                    intro k u hk hu
                    have : k = t := by omega
                    subst this
                    rw [hv] at hu; injection hu with hu; rw [hu]
                  · rw [chkR_stop (chkB_bad ho (by unfold badB; exact decide_eq_true hz)) (by omega)]
                    exact linkworkref52_Check.l13 t l v _ _ _ _ _ (by omega) hv hva hvv hsg hs' hone hcm hc' ht0 hsg (fun e => hz (cmpR_eq.1 e))
                · obtain ⟨k, hk⟩ : ∃ k, t = k + 1 := ⟨t - 1, by omega⟩
                  obtain ⟨u, hu⟩ : ∃ u, l.breaks[k]? = some u := ⟨_, List.getElem?_eq_getElem (by omega)⟩
                  have := hp k u hk hu
                  subst this
                  have huf := hf.1 u (List.mem_of_getElem? hu)
                  have hcu := CRb.Cmp v u ⟨by omega, by omega⟩ ⟨by omega, by omega⟩
                  by_cases hz : v.val ≤ u.val
                  · rw [chkR_stop (chkB_bad ho (by unfold badB; exact decide_eq_true hz)) (by omega)]
                    exact linkworkref52_Check.l17 t l v _ _ _ _ k u _ (by omega) hv hva hvv hsg hs' hone hcm hc' ht0 (by omega) (by unfold InI64; omega) (by omega) hu hcu (cmpR_le.2 hz)
                  · rw [chkR_cons ho (by unfold badB; exact decide_eq_false hz)]
                    refine linkworkref52_Check.l18 t l v _ _ _ _ k u _ (by omega) hv hva hvv hsg hs' hone hcm hc' ht0 (by omega) (by unfold InI64; omega) (by omega) hu hcu (cmpR_gt.2 (by grind)) (by omega) (ih (t + 1) _ (by omega) (by omega) (by omega) ?_)
                    intro k' u' hk' hu'
                    have : k' = t := by omega
                    subst this
                    rw [hv] at hu'; injection hu' with hu'; rw [hu']
      refine linkworkref52_Check.e3 l h0 h1 (by omega) ?_
      have := loop _ 0 none rfl (by omega) (fun _ => rfl) (fun k v h => by omega)
      rwa [List.drop_zero] at this
  · rw [if_pos (Or.inr h1)]; exact linkworkref52_Check.e1 l h0 h1
theorem Frac (x : ARat) (h : x.num.length ≤ 1073741824 ∧ x.den.length ≤ 1073741824) : Contract prg 37 [x.pv] (mkR (frac x.val)).pv := by
  obtain ⟨f1, f2⟩ := h
  have hh := ht_fit (k := 1073741824) f1 f2 (by omega)
  have hfl := CRb.Floor x ⟨by omega, by omega⟩
  have hw := wl_floor x.val
  have hfr := CRb.From (Sym.whole x.val.floor) (Sym.whole 1) (show wl _ ≤ _ by omega) (by decide) (by decide)
  rw [whole_val, show Rat.divInt x.val.floor (Sym.whole 1).val = (x.val.floor : Rat) from by rw [show (Sym.whole 1).val = 1 from rfl, Rat.divInt_eq_div]; grind] at hfr
  have hi := ht_int x.val.floor
  have hs := CRb.Sub x (mkR (x.val.floor : Rat)) ⟨by omega, by omega⟩ (fit_mkR (by omega))
  rw [mkR_val] at hs
  exact linkworkref52_Frac.e0 x _ _ _ _ _ hfl (CRa.Of 1 (by unfold InI64; omega)) hfr hs
end CRl
end Go.Proofs.YtcgbmnkgmepikaaGreat.Sym
namespace Go.Proofs.YtcgbmnkgmepikaaGreat.Sym
open Go Path CInt
set_option linter.unusedVariables false
theorem ht_of_i64 {n : Int} (h : InI64 n) : ht (n : Rat) ≤ 2 := by
  rw [ht_int]
  have : wl n ≤ 2 := wl_le (by unfold InI64 at h; omega)
  omega
namespace CLw
theorem Rise1 (cs : List Int) (s u : Rat) (x : ARat) (hs : ht s ≤ 1024) (hu : ht u ≤ 1024) (hcs : ∀ n ∈ cs, InI64 n) (hl : cs.length ≤ 100) : ∀ (j t : Nat) (site : List ARat) (w : Rat), cs.length - t = j → 1 ≤ t → t ≤ cs.length → site.length = t → ht w ≤ 1024 * (t + 1) → Fl 1048576 (vals site) → FitP 1048576 site →
    law_Rise.Loop1 site cs cs.length t x (mkR s) (mkR u) (mkR w) (.tup [polyPV ((trimL (vals site ++ riseG s u w (cs.drop t))).map mkR), .nilI]) := by
  intro j
  induction j with
  | zero =>
    intro t site w hj h1 htt hsl hw hfl hfit
    rw [List.drop_of_length_le (by omega), riseG, List.append_nil]
    exact law_Rise.l12 site cs _ t x _ _ _ _ (by omega) (CPo.Trim site (by omega) (fun a ha => ⟨by have := (hfit a ha).1; omega, by have := (hfit a ha).2; omega⟩))
  | succ j ih =>
    intro t site w hj h1 htt hsl hw hfl hfit
    obtain ⟨n, hn⟩ : ∃ n, cs[t]? = some n := ⟨_, List.getElem?_eq_getElem (by omega)⟩
    have hni := hcs n (List.mem_of_getElem? hn)
    have hof := CFr.Of n hni
    have hn2 := ht_of_i64 hni
    have m1 := CFr.Mul (mkR (n : Rat)) (mkR w) (fit_mkR (by omega)) (fit_mkR (by omega))
    rw [mkR_val, mkR_val] at m1
    have b1 := ht_mul (n : Rat) w
    have m2 := CFr.Mul (mkR s) (mkR ((n : Rat) * w)) (fit_mkR (by omega)) (fit_mkR (by omega))
    rw [mkR_val, mkR_val] at m2
    have b2 := ht_mul s ((n : Rat) * w)
    have m3 := CFr.Mul (mkR w) (mkR u) (fit_mkR (by omega)) (fit_mkR (by omega))
    rw [mkR_val, mkR_val] at m3
    have b3 := ht_mul w u
    have hb : ht (s * ((n : Rat) * w)) ≤ 1048576 := by omega
    have := ih (t + 1) (site ++ [mkR (s * ((n : Rat) * w))]) (w * u) (by omega) (by omega) (by omega) (by simp; omega) (by omega) (by
      unfold vals; rw [List.map_append]
      intro y hy
      rcases List.mem_append.1 hy with hy | hy
      · exact hfl y hy
      · have : y = s * ((n : Rat) * w) := by simpa [mkR_val] using hy
        rw [this]; exact hb) (by
      intro a ha
      rcases List.mem_append.1 ha with ha | ha
      · exact hfit a ha
      · have : a = mkR (s * ((n : Rat) * w)) := by simpa using ha
        rw [this]; exact fit_mkRk hb)
    have e : vals (site ++ [mkR (s * ((n : Rat) * w))]) = vals site ++ [s * ((n : Rat) * w)] := by
      unfold vals; rw [List.map_append]; simp [mkR_val]
    rw [e, List.append_assoc] at this
    rw [drop_cons hn, riseG]
    exact law_Rise.l11 site cs _ t x _ _ _ n _ _ _ _ (by omega) (by omega) hn hof m1 m2 (by omega) (by simp; omega) m3 (by omega) this
theorem Rise (len x y : ARat) (degree : Int) (h1 : len.num.length ≤ 4 ∧ len.den.length ≤ 4) (h2 : x.num.length ≤ 4 ∧ x.den.length ≤ 4) (h3 : y.num.length ≤ 4 ∧ y.den.length ≤ 4) (hc : riseC len x y degree = 0) :
    Contract prg 12 [len.pv, x.pv, y.pv, vI degree] (.tup [polyPV ((riseL len.val x.val y.val degree).map mkR), .nilI]) := by
  unfold riseC at hc
  cases hb : (!len.valid || (decide (len.val ≤ 0) || (!x.valid || !y.valid))) with
  | true => rw [hb] at hc; cases hc
  | false =>
    rw [hb, cond_false] at hc
    simp only [Bool.or_eq_false_iff, Bool.not_eq_false', decide_eq_false_iff_not] at hb
    obtain ⟨v1, v2, v3, v4⟩ := hb
    have c1 := CFr.Valid len ⟨by omega, by omega⟩
    have c2 := CFr.Sign len ⟨by omega, by omega⟩
    have c3 := CFr.Valid x ⟨by omega, by omega⟩
    have c4 := CFr.Valid y ⟨by omega, by omega⟩
    have hp : 0 < cmpR len.val 0 := cmpR_gt.2 (by grind)
    have a1 := ht_fit h1.1 h1.2 (by omega)
    have a2 := ht_fit h2.1 h2.2 (by omega)
    have a3 := ht_fit h3.1 h3.2 (by omega)
    have c5 := CFr.Sub y x ⟨by omega, by omega⟩ ⟨by omega, by omega⟩
    have b1 := ht_sub y.val x.val
    have c6 := CLw.one
    have hone : ht ((1 : Int) : Rat) = 1 := by decide
    have c7 := CFr.Div (mkR ((1 : Int) : Rat)) len (fit_mkR (by omega)) ⟨by omega, by omega⟩ (by grind)
    rw [mkR_val] at c7
    have b2 := ht_div ((1 : Int) : Rat) len.val
    have eone : ((1 : Int) : Rat) = 1 := rfl
    have first : ∀ cs : List Int, cs[0]? = some 0 → (∀ n ∈ cs, InI64 n) → cs.length ≤ 100 → law_Rise.Loop1 [] cs cs.length 0 x (mkR (y.val - x.val)) (mkR (((1 : Int) : Rat) / len.val)) (mkR ((1 : Int) : Rat)) (.tup [polyPV ((trimL (x.val :: riseG (y.val - x.val) (1 / len.val) (1 / len.val) (cs.drop 1))).map mkR), .nilI]) := by
      intro cs h0 hcs hl
      have hpos := (List.getElem?_eq_some_iff.1 h0).1
      have hof := CFr.Of 0 (by unfold InI64; omega)
      have z0 : ht ((0 : Int) : Rat) = 1 := by decide
      have m1 := CFr.Mul (mkR ((0 : Int) : Rat)) (mkR ((1 : Int) : Rat)) (fit_mkR (by omega)) (fit_mkR (by omega))
      rw [mkR_val, mkR_val] at m1
      have d1 := ht_mul ((0 : Int) : Rat) ((1 : Int) : Rat)
      have m2 := CFr.Mul (mkR (y.val - x.val)) (mkR (((0 : Int) : Rat) * ((1 : Int) : Rat))) (fit_mkR (by omega)) (fit_mkR (by omega))
      have m3 := CFr.Mul (mkR ((1 : Int) : Rat)) (mkR (((1 : Int) : Rat) / len.val)) (fit_mkR (by omega)) (fit_mkR (by omega))
      rw [mkR_val, mkR_val] at m3
      have e : ((1 : Int) : Rat) * (((1 : Int) : Rat) / len.val) = ((1 : Int) : Rat) / len.val := by rw [eone, Rat.one_mul]
      rw [e] at m3
      have := Rise1 cs (y.val - x.val) (((1 : Int) : Rat) / len.val) x (by omega) (by omega) hcs hl _ 1 [x] (((1 : Int) : Rat) / len.val) rfl (by omega) (by omega) rfl (by omega) (by
        intro q hq
        have : q = x.val := by simpa [vals] using hq
        rw [this]; omega) (by
        intro a ha
        have : a = x := by simpa using ha
        rw [this]; exact ⟨by omega, by omega⟩)
      exact law_Rise.l10 [] cs _ 0 x _ _ _ 0 _ _ _ _ (by omega) hpos h0 hof m1 m2 rfl (by simp) m3 (by omega) this
    unfold riseL riseN
    by_cases d1 : degree = 1
    · rw [if_pos d1]
      exact law_Rise.e4 len x y degree _ _ _ _ _ _ _ _ c1 v1 c2 hp c3 v3 c4 v4 d1 c5 c6 c7 c6 (first [0, 1] rfl (by unfold InI64; decide) (by decide))
    · rw [if_neg d1]
      by_cases d3 : degree = 3
      · rw [if_pos d3]
        exact law_Rise.e6 len x y degree _ _ _ _ _ _ _ _ c1 v1 c2 hp c3 v3 c4 v4 d1 d3 c5 c6 c7 c6 (first [0, 0, 3, -2] rfl (by unfold InI64; decide) (by decide))
      · rw [if_neg d3]
        have d5 : degree = 5 := by
          refine Classical.byContradiction fun h => ?_
          rw [if_neg (by omega)] at hc; cases hc
        exact law_Rise.e8 len x y degree _ _ _ _ _ _ _ _ c1 v1 c2 hp c3 v3 c4 v4 d1 d3 d5 c5 c6 c7 c6 (first [0, 0, 0, 10, -15, 6] rfl (by unfold InI64; decide) (by decide))
end CLw
end Go.Proofs.YtcgbmnkgmepikaaGreat.Sym
namespace Go.Proofs.YtcgbmnkgmepikaaGreat.Sym
open Go Path CInt
set_option linter.unusedVariables false
theorem trimL_cons (a : Rat) (r : List Rat) : trimL (a :: r) = bif (trimL r).isEmpty && decide (a = 0) then [] else a :: trimL r := rfl
theorem trimL_cases (a : Rat) (r : List Rat) : (trimL r = [] ∧ a = 0 ∧ trimL (a :: r) = []) ∨ trimL (a :: r) = a :: trimL r := by
  rw [trimL_cons]
  cases h : (trimL r).isEmpty && decide (a = 0) with
  | false => exact Or.inr rfl
  | true =>
    rw [Bool.and_eq_true] at h
    exact Or.inl ⟨List.isEmpty_iff.1 h.1, of_decide_eq_true h.2, rfl⟩
theorem mem_trimL : ∀ {q : List Rat} {y : Rat}, y ∈ trimL q → y ∈ q
  | [], y, h => h
  | a :: r, y, h => by
    rcases trimL_cases a r with ⟨_, _, e⟩ | e
    · rw [e] at h; cases h
    · rw [e] at h
      rcases List.mem_cons.1 h with h | h
      · rw [h]; exact List.mem_cons_self ..
      · exact List.mem_cons_of_mem _ (mem_trimL h)
theorem len_trimL : ∀ q : List Rat, (trimL q).length ≤ q.length
  | [] => by simp [trimL]
  | a :: r => by
    rcases trimL_cases a r with ⟨_, _, e⟩ | e
    · rw [e]; simp
    · rw [e]; simpa using len_trimL r
theorem fl_trimL {k : Nat} {q : List Rat} (h : Fl k q) : Fl k (trimL q) := fun x hx => h x (mem_trimL hx)
theorem lastZ_trimL : ∀ q : List Rat, lastZ (trimL q) = false
  | [] => rfl
  | a :: r => by
    have ih := lastZ_trimL r
    rw [trimL_cons]
    cases h : trimL r with
    | nil =>
      by_cases h0 : a = 0
      · rw [decide_eq_true h0]; rfl
      · rw [decide_eq_false h0]
        unfold lastZ
        exact decide_eq_false h0
    | cons b s =>
      rw [h] at ih
      unfold lastZ at ih ⊢
      rw [show (bif (b :: s).isEmpty && decide (a = 0) then [] else a :: b :: s) = a :: b :: s from rfl]
      rw [List.getLast?_cons_cons]
      exact ih
theorem chk_map {q : List Rat} (h : lastZ q = false) (hl : q.length ≤ 65) : chk (q.map mkR) = 0 := by
  unfold chk
  rw [if_neg (by rw [List.length_map]; omega), vals_mkR, h]
  rw [show (q.map mkR).all ARat.valid = true from by
    rw [List.all_eq_true]
    intro a ha
    obtain ⟨x, _, rfl⟩ := List.mem_map.1 ha
    exact mkR_valid x]
  rfl
theorem fl_derI2 {k : Nat} : ∀ (q : List Rat) (i : Nat), i + q.length ≤ 18446744073709551615 → Fl k q → Fl (k + 2) (derI i q)
  | [], _, _, _ => fun x hx => by cases hx
  | a :: r, i, hi, h => by
    intro x hx
    rw [List.length_cons] at hi
    rcases List.mem_cons.1 hx with e | hx
    · rw [e]
      have h1 := ht_mul ((i : Int) : Rat) a
      have h2 := h a (List.mem_cons_self ..)
      have h3 : ht ((i : Int) : Rat) ≤ 2 := by
        rw [ht_int]
        have : wl (i : Int) ≤ 2 := wl_le (by omega)
        omega
      omega
    · exact fl_derI2 r (i + 1) (by omega) (fun y hy => h y (List.mem_cons_of_mem _ hy)) x hx
theorem fl_deriveL {k : Nat} {q : List Rat} (hl : q.length ≤ 65) (h : Fl k q) : Fl (k + 2) (deriveL q) :=
  fl_trimL (fl_derI2 _ 1 (by rw [List.length_drop]; omega) (fun y hy => h y (List.mem_of_mem_drop hy)))
theorem len_deriveL (q : List Rat) : (deriveL q).length ≤ q.length := by
  unfold deriveL
  have := len_trimL (derI 1 (q.drop 1))
  rw [derI_len, List.length_drop] at this
  omega
theorem lastZ_deriveL (q : List Rat) : lastZ (deriveL q) = false := lastZ_trimL _
end Go.Proofs.YtcgbmnkgmepikaaGreat.Sym
namespace Go.Proofs.YtcgbmnkgmepikaaGreat.Sym
open Go Path CInt
set_option linter.unusedVariables false
theorem drop_take_map {α β : Type} {l : List α} {t : Nat} {v : α} (f : α → β) (h : l[t]? = some v) : (l.take (t + 1)).map f = (l.take t).map f ++ [f v] := by
  rw [List.take_add_one, h, List.map_append]; rfl
namespace CLw
theorem Derive (l : ALaw) (hc : chkLaw l = 0) (hf : FitW 1073741824 l) : Contract prg 22 [l.pv] (.tup [(deriveW l).pv, .nilI]) := by
  have g := good_of hc
  have hk := Check l hf
  rw [hc] at hk
  have hle := g.le
  have hlen := g.len
  have loop : ∀ (j t : Nat) (sb : List ARat) (sp : List (List ARat)), l.pieces.length - t = j → t ≤ l.pieces.length → sb = (l.breaks.take t).map (fun a => mkR a.val) → sp = (l.pieces.take t).map (fun p => (deriveL (vals p)).map mkR) → law_Derive.Loop1 l t sb sp (.tup [(deriveW l).pv, .nilI]) := by
    intro j
    induction j with
    | zero =>
      intro t sb sp hj ht hb hp
      rw [List.take_of_length_le (by omega)] at hb hp
      have e : deriveW l = ⟨sb, sp⟩ := by
        unfold deriveW vals
        rw [hb, hp, List.map_map]; rfl
      rw [e]
      exact law_Derive.l12 l t sb sp (by omega)
    | succ j ih =>
      intro t sb sp hj ht hb hp
      obtain ⟨v, hv⟩ : ∃ v, l.pieces[t]? = some v := ⟨_, List.getElem?_eq_getElem (by omega)⟩
      obtain ⟨b, hb'⟩ : ∃ b, l.breaks[t]? = some b := ⟨_, List.getElem?_eq_getElem (by omega)⟩
      have hvf := hf.2 v (List.mem_of_getElem? hv)
      have hbf := hf.1 b (List.mem_of_getElem? hb')
      have hd := CPo.Derive v (g.ps v (List.mem_of_getElem? hv)).1 (fun a ha => ⟨by have := (hvf a ha).1; omega, by have := (hvf a ha).2; omega⟩)
      have ha := CPo.addZ b ⟨by omega, by omega⟩
      have h1 : sb.length = t := by rw [hb, List.length_map, List.length_take]; omega
      have h2 : sp.length = t := by rw [hp, List.length_map, List.length_take]; omega
      refine law_Derive.l10 l t sb sp v _ b _ (by omega) hv hd hb' ha (by simp; omega) (by simp; omega) (by omega) (ih (t + 1) _ _ (by omega) (by omega) ?_ ?_)
      · rw [drop_take_map _ hb', hb]
      · rw [drop_take_map _ hv, hp]
  exact law_Derive.e0 l hk (loop _ 0 [] [] rfl (by omega) rfl rfl)
end CLw
end Go.Proofs.YtcgbmnkgmepikaaGreat.Sym
namespace Go.Proofs.YtcgbmnkgmepikaaGreat.Sym.Path
open Go
set_option maxRecDepth 20000
set_option linter.unusedVariables false
namespace linkworklaw52_part
theorem e0 (n d : Int) (mak : ARat) (mak1 : Int) (h1 : Contract prg 107 [(vI n), (vI d)] (.tup [mak.pv, (vI mak1)])) : Contract prg 48 [(vI n), (vI d)] mak.pv :=
  Contract.ofL Tryz.func48 (by kernel_rfl) (L.done mixed tabOk (n := 78) (ns := [1]) (tr := [.reg [], .reg [.none, .none, (.pv (.tup [mak.pv, (vI mak1)]))], .reg []]) (cj h1 True.intro) (by kernel_rfl))
end linkworklaw52_part
namespace linkworklaw52_example
theorem e0 (par par1 : ARat) (h1 : Contract prg 48 [(vI 1), (vI 2)] par.pv) (h2 : Contract prg 48 [(vI 1), (vI 1)] par1.pv) : Contract prg 47 [] ((⟨[(⟨false, [], []⟩ : ARat), par], [[], [(⟨false, [], []⟩ : ARat), par1]]⟩ : ALaw).pv) :=
  Contract.ofL Tryz.func47 (by kernel_rfl) (L.done mixed tabOk (n := 72) (ns := [1, 3, 1, 3, 3]) (tr := [.reg [], .reg [.none, (.pv par.pv), (.slc 0 0 (([(⟨false, [], []⟩ : ARat), par] : List ARat).map ARat.cells)), .none, (.pv par1.pv), (.slc 0 0 (([(⟨false, [], []⟩ : ARat), par1] : List ARat).map ARat.cells)), (.slc 0 0 (([[], [(⟨false, [], []⟩ : ARat), par1]] : List (List ARat)).map (lcell ARat.cells)))]]) (cj h1 (cj (o_bs sz_ARat ([(⟨false, [], []⟩ : ARat), par] : List ARat)) (cj h2 (cj (o_bs sz_ARat ([(⟨false, [], []⟩ : ARat), par1] : List ARat)) (cj (o_bs (sz_l ARat.cells) ([[], [(⟨false, [], []⟩ : ARat), par1]] : List (List ARat))) True.intro))))) (by kernel_rfl))
end linkworklaw52_example
namespace linkworklaw52_awake
theorem e0 (exa : ALaw) (par atV : ARat) (exa1 : ALaw) (dwe : List AArc) (par1 par2 : ARat) (ris : List ARat) (par3 : ARat) (rat : Bool) (v : AArc) (par4 : ARat) (rat1 : Bool) (par5 par6 : ARat) (rat2 : Bool) (h1 : Contract prg 47 [] exa.pv) (h2 : Contract prg 48 [(vI (-1)), (vI 4)] par.pv) (h3 : Contract prg 21 [exa.pv, par.pv] (.tup [atV.pv, .nilI])) (h4 : Contract prg 47 [] exa1.pv) (h5 : Contract prg 35 [exa1.pv] (.tup [(lpv AArc.cells dwe), .nilI])) (h6 : Contract prg 48 [(vI 1), (vI 2)] par1.pv) (h7 : Contract prg 48 [(vI 1), (vI 1)] par2.pv) (h8 : Contract prg 12 [par1.pv, (⟨false, [], []⟩ : ARat).pv, par2.pv, (vI 3)] (.tup [(polyPV ris), .nilI])) (h9 : Contract prg 48 [(vI 1), (vI 4)] par3.pv) (h10 : Contract prg 17 [atV.pv, par3.pv] (vB rat)) (h11 : rat = true) (h12 : dwe.length = 1) (h13 : dwe[0]? = some v) (h14 : Contract prg 48 [(vI 1), (vI 2)] par4.pv) (h15 : Contract prg 17 [v.toV.pv, par4.pv] (vB rat1)) (h16 : rat1 = true) (h17 : Contract prg 48 [(vI 12), (vI 1)] par5.pv) (h18 : Contract prg 48 [(vI (-16)), (vI 1)] par6.pv) (h19 : Contract prg 49 [(polyPV ris), (polyPV [(⟨false, [], []⟩ : ARat), (⟨false, [], []⟩ : ARat), par5, par6])] (vB rat2)) : Contract prg 10 [] (vB rat2) :=
  Contract.ofL Tryz.func10 (by kernel_rfl) (L.done mixed tabOk (n := 90) (ns := [1, 1, 1, 1, 1, 1, 1, 1, 1, 1, 1, 1, 1, 1, 1, 1, 1, 1, 1, 1, 1, 1, 1, 1, 3, 1, 1, 1, 1, 1, 1, 1, 1, 1, 1, 1, 1, 1, 1, 1, 3, 1, 1, 1]) (tr := [.reg [], .reg [(.pv exa.pv), (.pv par.pv), (.pv (.tup [atV.pv, .nilI]))], .reg [(.pv exa1.pv), (.pv (.tup [(lpv AArc.cells dwe), .nilI]))], .reg [(.pv par1.pv), .none, (.pv par2.pv), (.pv (.tup [(polyPV ris), .nilI]))], dr 37 1 [.none, .none, .none, .none, .none, .none, .none, .none, .none, .none, .none, .none, (.pv par3.pv), (.pv (vB rat)), .none, .none, .none, (iI (dwe.length : Int)), .none, (.dec true), .none, .none, (.row 0 (AArc.cells v)), .none, .none, (.pv par4.pv), (.pv (vB rat1)), (.dec true), .none, .none, .none, .none, (.pv par5.pv), (.pv par6.pv), (.slc 0 0 (([(⟨false, [], []⟩ : ARat), (⟨false, [], []⟩ : ARat), par5, par6] : List ARat).map ARat.cells)), (.pv (vB rat2)), (.dec true)]]) (cj h1 (cj h2 (cj h3 (cj h4 (cj h5 (cj h6 (cj h7 (cj h8 (cj (Eq.refl true) (cj (Eq.refl true) (cj (Eq.refl true) (cj (Eq.refl true) (cj (Eq.refl true) (cj (Eq.refl true) (cj h9 (cj (Eq.refl true) (cj h10 (cj h11 (cj h11 (cj (o_len AArc.cells dwe) (cj h11 (cj h11 (cj (deqN_t h12) (cj (deqN_t h12) (cj (o_at AArc.cells (Eq.refl (0 : Int)) h13) (cj (deqN_t h12) (cj (deqN_t h12) (cj (deqN_t h12) (cj h14 (cj (deqN_t h12) (cj h15 (cj (deqN_t h12) (cj h16 (cj h16 (cj h16 (cj h16 (cj h17 (cj h16 (cj h18 (cj h16 (cj (o_bs sz_ARat ([(⟨false, [], []⟩ : ARat), (⟨false, [], []⟩ : ARat), par5, par6] : List ARat)) (cj h16 (cj h19 (cj h16 True.intro)))))))))))))))))))))))))))))))))))))))))))) (by kernel_rfl))
end linkworklaw52_awake
namespace linkworklaw52_long
theorem e0 (x : ARat) (h1 : (x.num.length + x.den.length) < 9223372036854775808) : Contract prg 11 [x.pv] (vB (decide ((((x.num.length + x.den.length) : Nat) : Int) > 4))) :=
  Contract.ofL Tryz.func11 (by kernel_rfl) (L.done mixed tabOk (n := 72) (ns := [1, 1, 1]) (tr := [.reg [], .reg [.none, .none, (iI (x.num.length : Int)), .none, .none, (iI (x.den.length : Int)), (iI (((x.num.length + x.den.length) : Nat) : Int))]]) (cj (o_len wordPV x.num) (cj (o_len wordPV x.den) (cj (bs_addN h1) True.intro))) (by kernel_rfl))
end linkworklaw52_long
end Go.Proofs.YtcgbmnkgmepikaaGreat.Sym.Path
namespace Go.Proofs.YtcgbmnkgmepikaaGreat.Sym
open Go Path CInt
set_option linter.unusedVariables false
namespace C52
theorem part (n d : Int) (hn : InI64 n) (hd : InI64 d) (h0 : d ≠ 0) : Contract prg 48 [vI n, vI d] (mkR (Rat.divInt n d)).pv :=
  linkworklaw52_part.e0 n d _ _ (CRb.Make n d hn hd h0)
def exL : ALaw := ⟨[⟨false, [], []⟩, mkR (Rat.divInt 1 2)], [[], [⟨false, [], []⟩, mkR (Rat.divInt 1 1)]]⟩
theorem example' : Contract prg 47 [] exL.pv :=
  linkworklaw52_example.e0 _ _ (part 1 2 (by unfold InI64; decide) (by unfold InI64; decide) (by decide)) (part 1 1 (by unfold InI64; decide) (by unfold InI64; decide) (by decide))
theorem exL_chk : chkLaw exL = 0 := by decide +kernel
theorem exL_at : atW exL (mkR (Rat.divInt (-1) 4)).val = Rat.divInt 1 4 := by decide +kernel
theorem exL_fit4 : FitW 4 exL := by
  constructor
  · decide +kernel
  · decide +kernel
theorem exL_fit {k : Nat} (h : 4 ≤ k) : FitW k exL := ⟨fun a ha => ⟨Nat.le_trans (exL_fit4.1 a ha).1 h, Nat.le_trans (exL_fit4.1 a ha).2 h⟩, fun p hp a ha => ⟨Nat.le_trans (exL_fit4.2 p hp a ha).1 h, Nat.le_trans (exL_fit4.2 p hp a ha).2 h⟩⟩
theorem exL_dwells : Contract prg 35 [exL.pv] (.tup [lpv AArc.cells [⟨mkR 0, mkR (Rat.divInt 1 2)⟩], .nilI]) := by
  have hk := CLw.Check exL (exL_fit (by omega))
  rw [exL_chk] at hk
  have a1 := CPo.addZ ⟨false, [], []⟩ (by constructor <;> decide)
  have he := CLw.end' exL 0 (by decide) (by decide) (by decide +kernel)
  have a2 := CPo.addZ (mkR (endW exL 0)) (by constructor <;> decide +kernel)
  rw [mkR_val, show endW exL 0 = Rat.divInt 1 2 from by decide +kernel] at a2
  rw [show endW exL 0 = Rat.divInt 1 2 from by decide +kernel] at he
  refine law_Dwells.e0 exL hk ?_
  refine law_Dwells.l13 0 false exL 0 [] [] ⟨false, [], []⟩ _ _ _ (by decide) rfl (by decide) rfl rfl a1 he a2 rfl (by decide) (by decide) ?_
  refine law_Dwells.l10 _ true exL 1 _ [⟨false, [], []⟩, mkR (Rat.divInt 1 1)] (by decide) rfl (by decide) (by decide) ?_
  exact law_Dwells.l14 _ false exL 2 _ (by decide) rfl
theorem awake : Contract prg 10 [] (vB true) := by
  have p1 := part (-1) 4 (by unfold InI64; decide) (by unfold InI64; decide) (by decide)
  have p2 := part 1 2 (by unfold InI64; decide) (by unfold InI64; decide) (by decide)
  have p3 := part 1 1 (by unfold InI64; decide) (by unfold InI64; decide) (by decide)
  have p4 := part 1 4 (by unfold InI64; decide) (by unfold InI64; decide) (by decide)
  have p5 := part 12 1 (by unfold InI64; decide) (by unfold InI64; decide) (by decide)
  have p6 := part (-16) 1 (by unfold InI64; decide) (by unfold InI64; decide) (by decide)
  have hat := CLw.At exL (mkR (Rat.divInt (-1) 4)) exL_chk (exL_fit (by omega)) (mkR_valid _) (by constructor <;> decide +kernel)
  rw [exL_at] at hat
  have hri := CLw.Rise (mkR (Rat.divInt 1 2)) ⟨false, [], []⟩ (mkR (Rat.divInt 1 1)) 3 (by constructor <;> decide +kernel) (by constructor <;> decide) (by constructor <;> decide +kernel) (by decide +kernel)
  have r1 := CBa.Rat (mkR (Rat.divInt 1 4)) (mkR (Rat.divInt 1 4)) (by decide +kernel) (by decide +kernel)
  have r2 := CBa.Rat (mkR (Rat.divInt 1 2)) (mkR (Rat.divInt 1 2)) (by decide +kernel) (by decide +kernel)
  rw [eqR_self] at r1 r2
  have e : (riseL (mkR (Rat.divInt 1 2)).val (⟨false, [], []⟩ : ARat).val (mkR (Rat.divInt 1 1)).val 3).map mkR = [⟨false, [], []⟩, ⟨false, [], []⟩, mkR (Rat.divInt 12 1), mkR (Rat.divInt (-16) 1)] := by
    rw [show riseL (mkR (Rat.divInt 1 2)).val (⟨false, [], []⟩ : ARat).val (mkR (Rat.divInt 1 1)).val 3 = [0, 0, Rat.divInt 12 1, Rat.divInt (-16) 1] from by decide +kernel]
    rfl
  rw [e] at hri
  have r3 := CBa.Rats [⟨false, [], []⟩, ⟨false, [], []⟩, mkR (Rat.divInt 12 1), mkR (Rat.divInt (-16) 1)] [⟨false, [], []⟩, ⟨false, [], []⟩, mkR (Rat.divInt 12 1), mkR (Rat.divInt (-16) 1)] (by decide) (by decide +kernel)
  rw [eqRs_self] at r3
  exact linkworklaw52_awake.e0 _ _ _ _ _ _ _ _ _ _ _ _ _ _ _ _ example' p1 hat example' exL_dwells p2 p3 hri p4 r1 rfl rfl rfl p2 r2 rfl p5 p6 r3
theorem long (x : ARat) (h : x.num.length + x.den.length < 9223372036854775808) : Contract prg 11 [x.pv] (vB (decide (4 < x.num.length + x.den.length))) := by
  have := linkworklaw52_long.e0 x h
  rwa [show decide ((((x.num.length + x.den.length) : Nat) : Int) > 4) = decide (4 < x.num.length + x.den.length) from by congr 1; apply propext; omega] at this
end C52
end Go.Proofs.YtcgbmnkgmepikaaGreat.Sym
namespace Go.Proofs.YtcgbmnkgmepikaaGreat.Sym.Path
open Go
set_option maxRecDepth 20000
set_option linter.unusedVariables false
namespace linkworklaw52_large
@[reducible] noncomputable def fn : Func := Tryz.f20
noncomputable def atK1 : List Itm := focus [0, 2, 0, 0, 2, 1, 2, 0, 0, 2, 0, 0] [.code (bodyOf fn)]
def inv1 (i_3 : Nat) (l : ALaw) : St := ⟨[(1, (.ptr 1 0)), (3, (eI (i_3 : Int)))], [(1, (.lit [(.pv (polyPV l.breaks)), (.pv (lpv (lcell ARat.cells) l.pieces))]))]⟩
@[reducible] noncomputable def Loop1 (i_3 : Nat) (l : ALaw) (r : PV) : Prop := L prg fn atK1 (inv1 i_3 l) r
noncomputable def atK2 : List Itm := focus [0, 2, 0, 0, 2, 1, 2, 0, 0, 2, 0, 0, 0, 0, 0, 2, 1, 2, 2, 2, 2, 0, 0, 2, 0, 0] [.code (bodyOf fn)]
def inv2 (i_4 : Nat) (l : ALaw) : St := ⟨[(1, (.ptr 1 0)), (4, (eI (i_4 : Int)))], [(1, (.lit [(.pv (polyPV l.breaks)), (.pv (lpv (lcell ARat.cells) l.pieces))]))]⟩
@[reducible] noncomputable def Loop2 (i_4 : Nat) (l : ALaw) (r : PV) : Prop := L prg fn atK2 (inv2 i_4 l) r
noncomputable def atK3 : List Itm := focus [0, 2, 0, 0, 2, 1, 2, 0, 0, 2, 0, 0, 0, 0, 0, 2, 1, 2, 2, 2, 2, 0, 0, 2, 0, 0, 0, 0, 0, 2, 0, 2, 0, 0, 0, 0, 2, 1, 2, 0, 2, 0, 0] [.code (bodyOf fn)]
def inv3 (i_4 k_5 : Nat) (l : ALaw) : St := ⟨[(1, (.ptr 1 0)), (4, (eI (i_4 : Int))), (5, (eI (k_5 : Int)))], [(1, (.lit [(.pv (polyPV l.breaks)), (.pv (lpv (lcell ARat.cells) l.pieces))]))]⟩
@[reducible] noncomputable def Loop3 (i_4 k_5 : Nat) (l : ALaw) (r : PV) : Prop := L prg fn atK3 (inv3 i_4 k_5 l) r
theorem e0 (l : ALaw) (h1 : 40 < l.breaks.length) : Contract prg 20 [l.pv] (vB true) :=
  Contract.ofL Tryz.func20 (by kernel_rfl) (L.done mixed tabOk (n := 84) (ns := [1, 1, 1, 1, 1, 1]) (tr := [.reg [], .reg [.none, .none, (iI (l.breaks.length : Int)), .none, .none, .skip, .skip, .skip, .skip, (.dec true)], .auto, .reg []]) (cj (o_len ARat.cells l.breaks) (cj (dltN_t h1) (cj (dltN_t h1) (cj (dltN_t h1) (cj (dltN_t h1) (cj (dltN_t h1) True.intro)))))) (by kernel_rfl))
theorem e1 (l : ALaw) (h1 : l.breaks.length ≤ 40) (h2 : 40 < l.pieces.length) : Contract prg 20 [l.pv] (vB true) :=
  Contract.ofL Tryz.func20 (by kernel_rfl) (L.done mixed tabOk (n := 84) (ns := [1, 1, 1, 1, 1, 1, 1, 1]) (tr := [.reg [], .reg [.none, .none, (iI (l.breaks.length : Int)), .none, .none, .none, .none, (iI (l.pieces.length : Int)), .none, (.dec false)], .dec true, .reg []]) (cj (o_len ARat.cells l.breaks) (cj (dltN_f h1) (cj (dltN_f h1) (cj (dltN_f h1) (cj (o_len (lcell ARat.cells) l.pieces) (cj (dltN_f h1) (cj (dltN_f h1) (cj (dltN_t h2) True.intro)))))))) (by kernel_rfl))
theorem e2 (l : ALaw) {r : PV} (h1 : l.breaks.length ≤ 40) (h2 : l.pieces.length ≤ 40) (hL : Loop1 0 l r) : Contract prg 20 [l.pv] r :=
  Contract.ofL Tryz.func20 (by kernel_rfl) (L.go mixed tabOk (n := 96) (ns := [1, 1, 1, 1, 1, 1, 1, 1]) (tr := [.reg [], .reg [.none, .none, (iI (l.breaks.length : Int)), .none, .none, .none, .none, (iI (l.pieces.length : Int)), .none, (.dec false)], .dec false, .reg [], .keep [1, 3]]) (cj (o_len ARat.cells l.breaks) (cj (dltN_f h1) (cj (dltN_f h1) (cj (dltN_f h1) (cj (o_len (lcell ARat.cells) l.pieces) (cj (dltN_f h1) (cj (dltN_f h1) (cj (dltN_f h2) True.intro)))))))) (by kernel_rfl) hL)
theorem l10 (i_3 : Nat) (l : ALaw) (v : ARat) (lon : Bool) (h1 : i_3 < l.breaks.length) (h2 : l.breaks[i_3]? = some v) (h3 : Contract prg 11 [v.pv] (vB lon)) (h4 : lon = true) : Loop1 i_3 l (vB true) :=
  L.done mixed tabOk (n := 135) (ns := [1, 1, 3, 1, 1]) (tr := [.auto, .reg [.none, .none, .none, (iI (l.breaks.length : Int))], .dec true, .reg [.none, .none, .none, (.row i_3 (ARat.cells v)), .none, (.pv (vB lon))], .dec true, .reg []]) (cj (o_len ARat.cells l.breaks) (cj (dltN_t h1) (cj (o_at ARat.cells (Eq.refl (((i_3 : Nat) : Int) : Int)) h2) (cj h3 (cj h4 True.intro))))) (by kernel_rfl)
theorem l11 (i_3 : Nat) (l : ALaw) (v : ARat) (lon : Bool) {r : PV} (h1 : i_3 < l.breaks.length) (h2 : l.breaks[i_3]? = some v) (h3 : Contract prg 11 [v.pv] (vB lon)) (h4 : lon = false) (h5 : (i_3 + 1) < 9223372036854775808) (hL : Loop1 (i_3 + 1) l r) : Loop1 i_3 l r :=
  L.go mixed tabOk (n := 138) (ns := [1, 1, 3, 1, 1, 1]) (tr := [.auto, .reg [.none, .none, .none, (iI (l.breaks.length : Int))], .dec true, .reg [.none, .none, .none, (.row i_3 (ARat.cells v)), .none, (.pv (vB lon))], .dec false, .reg [.none, (iI (((i_3 + 1) : Nat) : Int))], .keep [1, 3]]) (cj (o_len ARat.cells l.breaks) (cj (dltN_t h1) (cj (o_at ARat.cells (Eq.refl (((i_3 : Nat) : Int) : Int)) h2) (cj h3 (cj h4 (cj (bs_addN h5) True.intro)))))) (by kernel_rfl) hL
theorem l12 (i_3 : Nat) (l : ALaw) {r : PV} (h1 : l.breaks.length ≤ i_3) (hL : Loop2 0 l r) : Loop1 i_3 l r :=
  L.go mixed tabOk (n := 138) (ns := [1, 1]) (tr := [.auto, .reg [.none, .none, .none, (iI (l.breaks.length : Int))], .dec false, .reg [], .keep [1, 4]]) (cj (o_len ARat.cells l.breaks) (cj (dltN_f h1) True.intro)) (by kernel_rfl) hL
theorem l20 (i_4 : Nat) (l : ALaw) (v : List ARat) (h1 : i_4 < l.pieces.length) (h2 : l.pieces[i_4]? = some v) (h3 : 80 < v.length) : Loop2 i_4 l (vB true) :=
  L.done mixed tabOk (n := 180) (ns := [1, 1, 3, 1, 1]) (tr := [.auto, .reg [.none, .none, .none, (iI (l.pieces.length : Int))], .dec true, .reg [.none, .none, .none, (.row i_4 ((lcell ARat.cells) v)), .none, (iI (v.length : Int))], .dec true, .reg []]) (cj (o_len (lcell ARat.cells) l.pieces) (cj (dltN_t h1) (cj (o_at (lcell ARat.cells) (Eq.refl (((i_4 : Nat) : Int) : Int)) h2) (cj (o_len ARat.cells v) (cj (dltN_t h3) True.intro))))) (by kernel_rfl)
theorem l21 (i_4 : Nat) (l : ALaw) (v : List ARat) {r : PV} (h1 : i_4 < l.pieces.length) (h2 : l.pieces[i_4]? = some v) (h3 : v.length ≤ 80) (hL : Loop3 i_4 0 l r) : Loop2 i_4 l r :=
  L.go mixed tabOk (n := 189) (ns := [1, 1, 3, 1, 1]) (tr := [.auto, .reg [.none, .none, .none, (iI (l.pieces.length : Int))], .dec true, .reg [.none, .none, .none, (.row i_4 ((lcell ARat.cells) v)), .none, (iI (v.length : Int))], .dec false, .reg [], .keep [1, 4, 5]]) (cj (o_len (lcell ARat.cells) l.pieces) (cj (dltN_t h1) (cj (o_at (lcell ARat.cells) (Eq.refl (((i_4 : Nat) : Int) : Int)) h2) (cj (o_len ARat.cells v) (cj (dltN_f h3) True.intro))))) (by kernel_rfl) hL
theorem l22 (i_4 : Nat) (l : ALaw) (h1 : l.pieces.length ≤ i_4) : Loop2 i_4 l (vB false) :=
  L.done mixed tabOk (n := 171) (ns := [1, 1]) (tr := [.auto, .reg [.none, .none, .none, (iI (l.pieces.length : Int))], .dec false, .reg []]) (cj (o_len (lcell ARat.cells) l.pieces) (cj (dltN_f h1) True.intro)) (by kernel_rfl)
theorem l30 (i_4 k_5 : Nat) (l : ALaw) (v : List ARat) (v1 : ARat) (lon : Bool) (h1 : l.pieces[i_4]? = some v) (h2 : k_5 < v.length) (h3 : v[k_5]? = some v1) (h4 : Contract prg 11 [v1.pv] (vB lon)) (h5 : lon = true) : Loop3 i_4 k_5 l (vB true) :=
  L.done mixed tabOk (n := 228) (ns := [3, 1, 1, 3, 3, 1, 1]) (tr := [.auto, .reg [.none, .none, .none, .none, (.row i_4 ((lcell ARat.cells) v)), .none, (iI (v.length : Int))], .dec true, .reg [.none, .none, .none, (.row i_4 ((lcell ARat.cells) v)), .none, .none, (.row k_5 (ARat.cells v1)), .none, (.pv (vB lon))], .dec true, .reg []]) (cj (o_at (lcell ARat.cells) (Eq.refl (((i_4 : Nat) : Int) : Int)) h1) (cj (o_len ARat.cells v) (cj (dltN_t h2) (cj (o_at (lcell ARat.cells) (Eq.refl (((i_4 : Nat) : Int) : Int)) h1) (cj (o_at ARat.cells (Eq.refl (((k_5 : Nat) : Int) : Int)) h3) (cj h4 (cj h5 True.intro))))))) (by kernel_rfl)
theorem l31 (i_4 k_5 : Nat) (l : ALaw) (v : List ARat) (v1 : ARat) (lon : Bool) {r : PV} (h1 : l.pieces[i_4]? = some v) (h2 : k_5 < v.length) (h3 : v[k_5]? = some v1) (h4 : Contract prg 11 [v1.pv] (vB lon)) (h5 : lon = false) (h6 : (k_5 + 1) < 9223372036854775808) (hL : Loop3 i_4 (k_5 + 1) l r) : Loop3 i_4 k_5 l r :=
  L.go mixed tabOk (n := 231) (ns := [3, 1, 1, 3, 3, 1, 1, 1]) (tr := [.auto, .reg [.none, .none, .none, .none, (.row i_4 ((lcell ARat.cells) v)), .none, (iI (v.length : Int))], .dec true, .reg [.none, .none, .none, (.row i_4 ((lcell ARat.cells) v)), .none, .none, (.row k_5 (ARat.cells v1)), .none, (.pv (vB lon))], .dec false, .reg [.none, (iI (((k_5 + 1) : Nat) : Int))], .keep [1, 4, 5]]) (cj (o_at (lcell ARat.cells) (Eq.refl (((i_4 : Nat) : Int) : Int)) h1) (cj (o_len ARat.cells v) (cj (dltN_t h2) (cj (o_at (lcell ARat.cells) (Eq.refl (((i_4 : Nat) : Int) : Int)) h1) (cj (o_at ARat.cells (Eq.refl (((k_5 : Nat) : Int) : Int)) h3) (cj h4 (cj h5 (cj (bs_addN h6) True.intro)))))))) (by kernel_rfl) hL
theorem l32 (i_4 k_5 : Nat) (l : ALaw) (v : List ARat) {r : PV} (h1 : l.pieces[i_4]? = some v) (h2 : v.length ≤ k_5) (h3 : (i_4 + 1) < 9223372036854775808) (hL : Loop2 (i_4 + 1) l r) : Loop3 i_4 k_5 l r :=
  L.go mixed tabOk (n := 222) (ns := [3, 1, 1, 1]) (tr := [.auto, .reg [.none, .none, .none, .none, (.row i_4 ((lcell ARat.cells) v)), .none, (iI (v.length : Int))], .dec false, .reg [.none, (iI (((i_4 + 1) : Nat) : Int))], .keep [1, 4]]) (cj (o_at (lcell ARat.cells) (Eq.refl (((i_4 : Nat) : Int) : Int)) h1) (cj (o_len ARat.cells v) (cj (dltN_f h2) (cj (bs_addN h3) True.intro)))) (by kernel_rfl) hL
end linkworklaw52_large
end Go.Proofs.YtcgbmnkgmepikaaGreat.Sym.Path
namespace Go.Proofs.YtcgbmnkgmepikaaGreat.Sym
open Go Path CInt
set_option linter.unusedVariables false
theorem chkP_of : ∀ {ps : List (List ARat)}, (∀ p ∈ ps, chk p = 0 ∧ p.length ≤ 9) → chkP ps = 0
  | [], _ => rfl
  | a :: r, h => by
    obtain ⟨h1, h2⟩ := h a (List.mem_cons_self ..)
    rw [chkP, h1, show decide ((0 : Int) ≠ 0) = false from rfl, cond_false]
    rw [show Nat.blt 9 a.length = false from by
      cases hb : Nat.blt 9 a.length with
      | false => rfl
      | true => have : 9 < a.length := by simpa [Nat.blt_eq] using hb
                omega, cond_false]
    exact chkP_of (fun p hp => h p (List.mem_cons_of_mem _ hp))
theorem chkB_zero {l : ALaw} (h : chkLaw l = 0) : chkB none l.breaks = 0 := by
  unfold chkLaw at h
  split at h
  · cases h
  · split at h
    · cases h
    · unfold chkR at h
      refine Classical.byContradiction fun hb => ?_
      rw [decide_eq_true hb, cond_true] at h
      exact hb h
theorem chk_derive {l : ALaw} (h : chkLaw l = 0) : chkLaw (deriveW l) = 0 := by
  have g := good_of h
  have hb := chkB_zero h
  have e : (deriveW l).breaks = l.breaks := vals_of g.valid
  have hlen := g.len
  have hn0 := g.n0
  have hle := g.le
  have hp : (deriveW l).pieces.length = l.pieces.length := by unfold deriveW; simp
  unfold chkLaw
  rw [if_neg (by rw [e, hp]; omega), if_neg (by rw [e]; omega)]
  unfold chkR
  rw [e, hb]
  refine chkP_of (fun p hp => ?_)
  unfold deriveW at hp
  obtain ⟨q, hq, rfl⟩ := List.mem_map.1 hp
  have h9 := (g.ps q hq).2
  have hd := len_deriveL (vals q)
  have hv : (vals q).length = q.length := by unfold vals; rw [List.length_map]
  exact ⟨chk_map (lastZ_deriveL _) (by omega), by rw [List.length_map]; omega⟩
theorem fitW_derive {l : ALaw} {k : Nat} (g : Good l) (hk : 1 ≤ k) (h : FitW k l) : FitW (k + 2) (deriveW l) := by
  have e : (deriveW l).breaks = l.breaks := vals_of g.valid
  constructor
  · rw [e]; exact fun a ha => ⟨by have := (h.1 a ha).1; omega, by have := (h.1 a ha).2; omega⟩
  · intro p hp
    unfold deriveW at hp
    obtain ⟨q, hq, rfl⟩ := List.mem_map.1 hp
    have h9 := (g.ps q hq).2
    exact fit_mapk (fl_deriveL (by unfold vals; rw [List.length_map]; omega) (fl_vals (h.2 q hq) hk))
namespace C52
def Small (l : ALaw) : Prop := l.breaks.length ≤ 40 ∧ l.pieces.length ≤ 40 ∧ FitW 4 l ∧ ∀ p ∈ l.pieces, p.length ≤ 80
def Held (l : ALaw) : Prop := (∀ a ∈ l.breaks, a.num.length + a.den.length < 9223372036854775808) ∧ ∀ p ∈ l.pieces, ∀ a ∈ p, a.num.length + a.den.length < 9223372036854775808
theorem large (l : ALaw) (hh : Held l) : Contract prg 20 [l.pv] (vB true) ∨ (Small l ∧ Contract prg 20 [l.pv] (vB false)) := by
  by_cases h1 : 40 < l.breaks.length
  · exact Or.inl (linkworklaw52_large.e0 l h1)
  by_cases h2 : 40 < l.pieces.length
  · exact Or.inl (linkworklaw52_large.e1 l (by omega) h2)
  have small : ∀ {a : ARat}, ¬ 4 < a.num.length + a.den.length → a.num.length ≤ 4 ∧ a.den.length ≤ 4 := fun h => by omega
  have loop3 : ∀ (i : Nat) (v : List ARat), l.pieces[i]? = some v → v.length ≤ 80 → (linkworklaw52_large.Loop2 (i + 1) l (vB true) ∨ ((∀ p ∈ l.pieces.drop (i + 1), FitP 4 p ∧ p.length ≤ 80) ∧ linkworklaw52_large.Loop2 (i + 1) l (vB false))) →
      ∀ (j k : Nat), v.length - k = j → (linkworklaw52_large.Loop3 i k l (vB true) ∨ (FitP 4 (v.drop k) ∧ (∀ p ∈ l.pieces.drop (i + 1), FitP 4 p ∧ p.length ≤ 80) ∧ linkworklaw52_large.Loop3 i k l (vB false))) := by
    intro i v hv hlv hnext j
    have hi := (List.getElem?_eq_some_iff.1 hv).1
    induction j with
    | zero =>
      intro k hj
      rcases hnext with h | ⟨h, h'⟩
      · exact Or.inl (linkworklaw52_large.l32 i k l v hv (by omega) (by omega) h)
      · refine Or.inr ⟨?_, h, linkworklaw52_large.l32 i k l v hv (by omega) (by omega) h'⟩
        rw [List.drop_of_length_le (by omega)]; exact fun a ha => by cases ha
    | succ j ih =>
      intro k hj
      obtain ⟨u, hu⟩ : ∃ u, v[k]? = some u := ⟨_, List.getElem?_eq_getElem (by omega)⟩
      have hl := long u (hh.2 v (List.mem_of_getElem? hv) u (List.mem_of_getElem? hu))
      by_cases h4 : 4 < u.num.length + u.den.length
      · rw [decide_eq_true h4] at hl
        exact Or.inl (linkworklaw52_large.l30 i k l v u _ hv (by omega) hu hl rfl)
      · rw [decide_eq_false h4] at hl
        rcases ih (k + 1) (by omega) with h | ⟨h, h', h''⟩
        · exact Or.inl (linkworklaw52_large.l31 i k l v u _ hv (by omega) hu hl rfl (by omega) h)
        · refine Or.inr ⟨?_, h', linkworklaw52_large.l31 i k l v u _ hv (by omega) hu hl rfl (by omega) h''⟩
          rw [drop_cons hu]
          intro a ha
          rcases List.mem_cons.1 ha with e | ha
          · rw [e]; exact small h4
          · exact h a ha
  have loop2 : ∀ (j i : Nat), l.pieces.length - i = j → (linkworklaw52_large.Loop2 i l (vB true) ∨ ((∀ p ∈ l.pieces.drop i, FitP 4 p ∧ p.length ≤ 80) ∧ linkworklaw52_large.Loop2 i l (vB false))) := by
    intro j
    induction j with
    | zero =>
      intro i hj
      refine Or.inr ⟨?_, linkworklaw52_large.l22 i l (by omega)⟩
      rw [List.drop_of_length_le (by omega)]; exact fun a ha => by cases ha
    | succ j ih =>
      intro i hj
      obtain ⟨v, hv⟩ : ∃ v, l.pieces[i]? = some v := ⟨_, List.getElem?_eq_getElem (by omega)⟩
      by_cases h80 : 80 < v.length
      · exact Or.inl (linkworklaw52_large.l20 i l v (by omega) hv h80)
      · rcases loop3 i v hv (by omega) (ih (i + 1) (by omega)) _ 0 rfl with h | ⟨h, h', h''⟩
        · exact Or.inl (linkworklaw52_large.l21 i l v (by omega) hv (by omega) h)
        · refine Or.inr ⟨?_, linkworklaw52_large.l21 i l v (by omega) hv (by omega) h''⟩
          rw [drop_cons hv]
          intro p hp
          rcases List.mem_cons.1 hp with e | hp
          · rw [e]; exact ⟨by rwa [List.drop_zero] at h, by omega⟩
          · exact h' p hp
  have loop1 : ∀ (j i : Nat), l.breaks.length - i = j → (linkworklaw52_large.Loop1 i l (vB true) ∨ (FitP 4 (l.breaks.drop i) ∧ (∀ p ∈ l.pieces, FitP 4 p ∧ p.length ≤ 80) ∧ linkworklaw52_large.Loop1 i l (vB false))) := by
    intro j
    induction j with
    | zero =>
      intro i hj
      rcases loop2 _ 0 rfl with h | ⟨h, h'⟩
      · exact Or.inl (linkworklaw52_large.l12 i l (by omega) h)
      · rw [List.drop_zero] at h
        refine Or.inr ⟨?_, h, linkworklaw52_large.l12 i l (by omega) h'⟩
        rw [List.drop_of_length_le (by omega)]; exact fun a ha => by cases ha
    | succ j ih =>
      intro i hj
      obtain ⟨u, hu⟩ : ∃ u, l.breaks[i]? = some u := ⟨_, List.getElem?_eq_getElem (by omega)⟩
      have hl := long u (hh.1 u (List.mem_of_getElem? hu))
      by_cases h4 : 4 < u.num.length + u.den.length
      · rw [decide_eq_true h4] at hl
        exact Or.inl (linkworklaw52_large.l10 i l u _ (by omega) hu hl rfl)
      · rw [decide_eq_false h4] at hl
        rcases ih (i + 1) (by omega) with h | ⟨h, h', h''⟩
        · exact Or.inl (linkworklaw52_large.l11 i l u _ (by omega) hu hl rfl (by omega) h)
        · refine Or.inr ⟨?_, h', linkworklaw52_large.l11 i l u _ (by omega) hu hl rfl (by omega) h''⟩
          rw [drop_cons hu]
          intro a ha
          rcases List.mem_cons.1 ha with e | ha
          · rw [e]; exact small h4
          · exact h a ha
  rcases loop1 _ 0 rfl with h | ⟨h, h', h''⟩
  · exact Or.inl (linkworklaw52_large.e2 l (by omega) (by omega) h)
  · rw [List.drop_zero] at h
    exact Or.inr ⟨⟨by omega, by omega, ⟨h, fun p hp => (h' p hp).1⟩, fun p hp => (h' p hp).2⟩, linkworklaw52_large.e2 l (by omega) (by omega) h''⟩
end C52
end Go.Proofs.YtcgbmnkgmepikaaGreat.Sym
namespace Go.Proofs.YtcgbmnkgmepikaaGreat.Sym
open Go Go.RowKit Go.ChangeShapes Go.WideShapes
set_option linter.unusedVariables false
theorem opens_rats : Opens prg 29 (fun l : List ARat => [polyPV l]) (fun l => ∀ a ∈ l, LenR a) := by
  intro H enc w base spare held fuel cs x h hwt
  obtain ⟨l, h1, _, h2⟩ := opens_slice (s := 3) (show prg.underlying 29 = some (.slice 24) by kernel_rfl) (by kernel_rfl) (by omega) (sb := 56) (by kernel_rfl) (fun _ => rfl) opens_ARat enc w base spare held fuel cs x h hwt
  exact ⟨l, h1, h2⟩
theorem opens_poly : Opens prg 30 (lcell ARat.cells) (fun l => ∀ a ∈ l, LenR a) := by
  intro H enc w base spare held fuel cs x h hwt
  obtain ⟨l, h1, _, h2⟩ := opens_slice (s := 3) (show prg.underlying 30 = some (.slice 24) by kernel_rfl) (by kernel_rfl) (by omega) (sb := 56) (by kernel_rfl) (fun _ => rfl) opens_ARat enc w base spare held fuel cs x h hwt
  exact ⟨l, h1, h2⟩
theorem opens_polys : Opens prg 45 (fun l : List (List ARat) => [lpv (lcell ARat.cells) l]) (fun l => ∀ p ∈ l, ∀ a ∈ p, LenR a) := by
  intro H enc w base spare held fuel cs x h hwt
  obtain ⟨l, h1, _, h2⟩ := opens_slice (s := 1) (show prg.underlying 45 = some (.slice 30) by kernel_rfl) (by kernel_rfl) (by omega) (sb := 24) (by kernel_rfl) (fun _ => rfl) opens_poly enc w base spare held fuel cs x h hwt
  exact ⟨l, h1, h2⟩
theorem split2 {α : Type} (cs : List α) (a b : Nat) (h : cs.length = a + b) : cs = (cs.drop 0).take a ++ (cs.drop a).take b := by
  have e : (cs.drop a).take b = cs.drop a := List.take_of_length_le (by rw [List.length_drop]; omega)
  rw [e, List.drop_zero, List.take_append_drop]
theorem reach_lt : reachBytes < 140737488355328 := by decide
theorem lenR_sum {a : ARat} (h : LenR a) : a.num.length + a.den.length < 9223372036854775808 := by
  have := h.1
  have := h.2
  have := reach_lt
  omega
theorem opens_ALaw : Opens prg 47 ALaw.cells C52.Held := by
  intro H enc w base spare held fuel cs x h hwt
  obtain ⟨fs, hu, e⟩ := flds_spec (show fldsOf (prg.underlying 47) = some [(29, 0), (45, 1)] by kernel_rfl)
  have hl := opens_struct hu h
  have hl : cs.length = 1 + 1 := hl.trans (by kernel_rfl)
  obtain ⟨a, r0, q0⟩ := opens_field hu h hwt 0 0 1 (e 0) (by kernel_rfl) opens_rats
  obtain ⟨b, r1, q1⟩ := opens_field hu h hwt 1 1 1 (e 1) (by kernel_rfl) opens_polys
  refine ⟨⟨a, b⟩, ?_, fun u hu => lenR_sum (q0 u hu), fun p hp u hu => lenR_sum (q1 p hp u hu)⟩
  rw [split2 cs 1 1 hl]
  exact rdCells_append r0 r1
end Go.Proofs.YtcgbmnkgmepikaaGreat.Sym
namespace Go.Proofs.YtcgbmnkgmepikaaGreat.Sym
open Go Path CInt
set_option linter.unusedVariables false
def mkG (a b : Rat) : ARange := ⟨mkR a, mkR b⟩
def ARange.ok (r : ARange) : Bool := r.lo.valid && (r.hi.valid && decide (r.lo.val ≤ r.hi.val))
def loG (r : ARange) : Rat := bif r.ok then r.lo.val else 0
def hiG (r : ARange) : Rat := bif r.ok then r.hi.val else 0
theorem ok_parts {r : ARange} (h : r.ok = true) : r.lo.valid = true ∧ r.hi.valid = true ∧ r.lo.val ≤ r.hi.val := by
  unfold ARange.ok at h
  simp only [Bool.and_eq_true, decide_eq_true_eq] at h
  exact h
theorem ok_mkG {a b : Rat} (h : a ≤ b) : (mkG a b).ok = true := by
  unfold ARange.ok mkG
  simp only [mkR_valid, mkR_val, decide_eq_true h, Bool.and_self]
theorem loG_mk {a b : Rat} (h : a ≤ b) : loG (mkG a b) = a := by unfold loG; rw [ok_mkG h, cond_true]; exact mkR_val a
theorem hiG_mk {a b : Rat} (h : a ≤ b) : hiG (mkG a b) = b := by unfold hiG; rw [ok_mkG h, cond_true]; exact mkR_val b
theorem mkG_of {r : ARange} (h : r.ok = true) : mkG (loG r) (hiG r) = r := by
  obtain ⟨h1, h2, h3⟩ := ok_parts h
  unfold mkG loG hiG
  rw [h, cond_true, cond_true, mkR_of h1, mkR_of h2]
theorem mkG_not {r : ARange} (h : r.ok = false) : mkG (loG r) (hiG r) = ⟨⟨false, [], []⟩, ⟨false, [], []⟩⟩ := by
  unfold mkG loG hiG
  rw [h]; rfl
abbrev FitG (k : Nat) (r : ARange) : Prop := (r.lo.num.length ≤ k ∧ r.lo.den.length ≤ k) ∧ (r.hi.num.length ≤ k ∧ r.hi.den.length ≤ k)
theorem fit_mkG {a b : Rat} {k : Nat} (ha : ht a ≤ k) (hb : ht b ≤ k) : FitG k (mkG a b) := ⟨fit_mkRk ha, fit_mkRk hb⟩
theorem ht_loG {r : ARange} {k : Nat} (h : FitG k r) (hk : 1 ≤ k) : ht (loG r) ≤ k := by
  unfold loG
  cases r.ok with
  | true => exact ht_fit h.1.1 h.1.2 hk
  | false => exact Nat.le_trans (Nat.le_of_eq ht_zero) hk
theorem ht_hiG {r : ARange} {k : Nat} (h : FitG k r) (hk : 1 ≤ k) : ht (hiG r) ≤ k := by
  unfold hiG
  cases r.ok with
  | true => exact ht_fit h.2.1 h.2.2 hk
  | false => exact Nat.le_trans (Nat.le_of_eq ht_zero) hk
def mulLo (a b c d : Rat) : Rat := minR (minR (minR (a * c) (a * d)) (b * c)) (b * d)
def mulHi (a b c d : Rat) : Rat := maxR (maxR (maxR (a * c) (a * d)) (b * c)) (b * d)
theorem mulLo_le (a b c d : Rat) : mulLo a b c d ≤ mulHi a b c d := by
  unfold mulLo mulHi
  have h1 := minR_le_r (minR (minR (a * c) (a * d)) (b * c)) (b * d)
  have h2 := maxR_ge_r (maxR (maxR (a * c) (a * d)) (b * c)) (b * d)
  grind
theorem ht_mulLo {a b c d : Rat} {k m : Nat} (ha : ht a ≤ k) (hb : ht b ≤ k) (hc : ht c ≤ m) (hd : ht d ≤ m) : ht (mulLo a b c d) ≤ k + m := by
  have h1 := ht_mul a c
  have h2 := ht_mul a d
  have h3 := ht_mul b c
  have h4 := ht_mul b d
  unfold mulLo
  exact ht_min _ _ (ht_min _ _ (ht_min _ _ (by omega) (by omega)) (by omega)) (by omega)
theorem ht_mulHi {a b c d : Rat} {k m : Nat} (ha : ht a ≤ k) (hb : ht b ≤ k) (hc : ht c ≤ m) (hd : ht d ≤ m) : ht (mulHi a b c d) ≤ k + m := by
  have h1 := ht_mul a c
  have h2 := ht_mul a d
  have h3 := ht_mul b c
  have h4 := ht_mul b d
  unfold mulHi
  exact ht_max _ _ (ht_max _ _ (ht_max _ _ (by omega) (by omega)) (by omega)) (by omega)
namespace CIv
theorem Valid (r : ARange) (h : FitG 68719476736 r) : Contract prg 137 [r.pv] (vB r.ok) := by
  have h1 := CFr.Valid r.lo ⟨by omega, by omega⟩
  have h2 := CFr.Valid r.hi ⟨by omega, by omega⟩
  have h3 := CFr.Cmp r.lo r.hi ⟨by omega, by omega⟩ ⟨by omega, by omega⟩
  unfold ARange.ok
  cases hv : r.lo.valid with
  | false => exact interval_Valid.e2 r _ h1 hv
  | true =>
    cases hw : r.hi.valid with
    | false => exact interval_Valid.e1 r _ _ h1 hv h2 hw
    | true =>
      have := interval_Valid.e0 r _ _ _ h1 hv h2 hw h3
      rwa [show decide (cmpR r.lo.val r.hi.val ≤ 0) = decide (r.lo.val ≤ r.hi.val) from decide_eq_decide.2 cmpR_le] at this
theorem clean (r : ARange) (h : FitG 68719476736 r) : Contract prg 89 [r.pv] (mkG (loG r) (hiG r)).pv := by
  have hv := Valid r h
  cases hk : r.ok with
  | false => rw [mkG_not hk]; exact interval_clean.e0 r _ hv hk
  | true =>
    obtain ⟨h1, h2, h3⟩ := ok_parts hk
    have := interval_clean.e1 r _ _ _ hv hk (CPo.addZ r.lo ⟨by omega, by omega⟩) (CPo.addZ r.hi ⟨by omega, by omega⟩)
    rw [mkR_of h1, mkR_of h2] at this
    rw [mkG_of hk]; exact this
theorem Point (x : Rat) (hx : ht x ≤ 68719476736) : Contract prg 132 [(mkR x).pv] (mkG x x).pv := interval_Point.e0 _ _ _ (QF.addZ x hx) (QF.addZ x hx)
theorem Add (r s : ARange) (h : FitG 68719476736 r) (h' : FitG 68719476736 s) : Contract prg 133 [r.pv, s.pv] (mkG (loG r + loG s) (hiG r + hiG s)).pv :=
  interval_Add.e0 r s _ _ _ _ (clean r h) (clean s h') (QF.Add _ _ (ht_loG h (by omega)) (ht_loG h' (by omega))) (QF.Add _ _ (ht_hiG h (by omega)) (ht_hiG h' (by omega)))
theorem Hull (r s : ARange) (h : FitG 68719476736 r) (h' : FitG 68719476736 s) : Contract prg 86 [r.pv, s.pv] (mkG (minR (loG r) (loG s)) (maxR (hiG r) (hiG s))).pv :=
  interval_Hull.e0 r s _ _ _ _ (clean r h) (clean s h') (QF.Min _ _ (ht_loG h (by omega)) (ht_loG h' (by omega))) (QF.Max _ _ (ht_hiG h (by omega)) (ht_hiG h' (by omega)))
theorem Mul (r s : ARange) (h : FitG 34359738368 r) (h' : FitG 34359738368 s) : Contract prg 134 [r.pv, s.pv] (mkG (mulLo (loG r) (hiG r) (loG s) (hiG s)) (mulHi (loG r) (hiG r) (loG s) (hiG s))).pv := by
  have a1 := ht_loG h (by omega)
  have a2 := ht_hiG h (by omega)
  have a3 := ht_loG h' (by omega)
  have a4 := ht_hiG h' (by omega)
  have b1 := ht_mul (loG r) (loG s)
  have b2 := ht_mul (loG r) (hiG s)
  have b3 := ht_mul (hiG r) (loG s)
  have b4 := ht_mul (hiG r) (hiG s)
  have m1 := QF.Mul (loG r) (loG s) (by omega) (by omega)
  have m2 := QF.Mul (loG r) (hiG s) (by omega) (by omega)
  have m3 := QF.Mul (hiG r) (loG s) (by omega) (by omega)
  have m4 := QF.Mul (hiG r) (hiG s) (by omega) (by omega)
  refine interval_Mul.e0 r s _ _ _ _ _ _ _ (clean r ⟨by omega, by omega⟩) (clean s ⟨by omega, by omega⟩) m1 (QF.addZ _ (by omega)) m2 m3 m4 ?_
  unfold mulLo mulHi
  generalize loG r * loG s = w at *
  generalize loG r * hiG s = x at *
  generalize hiG r * loG s = y at *
  generalize hiG r * hiG s = z at *
  have c1 := ht_min w x (k := 68719476736) (by omega) (by omega)
  have c2 := ht_max w x (k := 68719476736) (by omega) (by omega)
  have d1 := ht_min _ y c1 (by omega)
  have d2 := ht_max _ y c2 (by omega)
  refine interval_Mul.l10 0 (mkG w w) _ _ _ _ _ _ (by omega) rfl (QF.Min w x (by omega) (by omega)) (QF.Max w x (by omega) (by omega)) (by omega) ?_
  refine interval_Mul.l10 1 (mkG (minR w x) (maxR w x)) _ _ _ _ _ _ (by omega) rfl (QF.Min _ y c1 (by omega)) (QF.Max _ y c2 (by omega)) (by omega) ?_
  refine interval_Mul.l10 2 (mkG (minR (minR w x) y) (maxR (maxR w x) y)) _ _ _ _ _ _ (by omega) rfl (QF.Min _ z d1 (by omega)) (QF.Max _ z d2 (by omega)) (by omega) ?_
  exact interval_Mul.l11 3 (mkG (minR (minR (minR w x) y) z) (maxR (maxR (maxR w x) y) z)) _ _ _ (by omega)
theorem Contains (r : ARange) (x : Rat) (h : FitG 68719476736 r) (hx : ht x ≤ 68719476736) : Contract prg 36 [r.pv, (mkR x).pv] (vB (decide (loG r ≤ x ∧ x ≤ hiG r))) := by
  have c1 := QF.Cmp (loG r) x (ht_loG h (by omega)) hx
  have c2 := QF.Cmp x (hiG r) hx (ht_hiG h (by omega))
  by_cases h1 : loG r ≤ x
  · have := interval_Contains.e0 r _ _ _ _ (clean r h) c1 (cmpR_le.2 h1) c2
    rwa [show decide (cmpR x (hiG r) ≤ 0) = decide (loG r ≤ x ∧ x ≤ hiG r) from decide_eq_decide.2 ⟨fun e => ⟨h1, cmpR_le.1 e⟩, fun e => cmpR_le.2 e.2⟩] at this
  · rw [decide_eq_false (fun e => h1 e.1)]
    exact interval_Contains.e1 r _ _ _ (clean r h) c1 (cmpR_gt.2 (by grind))
end CIv
end Go.Proofs.YtcgbmnkgmepikaaGreat.Sym
namespace Go.Proofs.YtcgbmnkgmepikaaGreat.Sym
open Go Path CInt
set_option linter.unusedVariables false
def overF : List Rat → Rat → Rat → Rat × Rat
  | [], _, _ => (0, 0)
  | a :: r, c, d => (mulLo (overF r c d).1 (overF r c d).2 c d + a, mulHi (overF r c d).1 (overF r c d).2 c d + a)
theorem overF_le (q : List Rat) (c d : Rat) : (overF q c d).1 ≤ (overF q c d).2 := by
  cases q with
  | nil => exact Rat.le_refl
  | cons a r =>
    have := mulLo_le (overF r c d).1 (overF r c d).2 c d
    show mulLo _ _ _ _ + a ≤ mulHi _ _ _ _ + a
    grind
theorem ht_overF {k m : Nat} : ∀ (q : List Rat) (c d : Rat), Fl k q → ht c ≤ m → ht d ≤ m → ht (overF q c d).1 ≤ q.length * (k + m + 1) + 1 ∧ ht (overF q c d).2 ≤ q.length * (k + m + 1) + 1
  | [], c, d, _, _, _ => by
    have := ht_zero
    exact ⟨Nat.le_trans (Nat.le_of_eq this) (by omega), Nat.le_trans (Nat.le_of_eq this) (by omega)⟩
  | a :: r, c, d, h, hc, hd => by
    obtain ⟨g1, g2⟩ := ht_overF r c d (fun x hx => h x (List.mem_cons_of_mem _ hx)) hc hd
    have ha := h a (List.mem_cons_self ..)
    have m1 := ht_mulLo g1 g2 hc hd
    have m2 := ht_mulHi g1 g2 hc hd
    have s1 := ht_add (mulLo (overF r c d).1 (overF r c d).2 c d) a
    have s2 := ht_add (mulHi (overF r c d).1 (overF r c d).2 c d) a
    rw [List.length_cons, Nat.add_mul]
    constructor
    · show ht (mulLo _ _ _ _ + a) ≤ _
      omega
    · show ht (mulHi _ _ _ _ + a) ≤ _
      omega
theorem zero_mul' (c : Rat) : (0 : Rat) * c = 0 := by grind
theorem overF_one (a c d : Rat) : overF [a] c d = (a, a) := by
  show (mulLo 0 0 c d + a, mulHi 0 0 c d + a) = (a, a)
  unfold mulLo mulHi
  simp only [zero_mul', minR_self, maxR_self]
  rw [Rat.zero_add]
theorem over_fit {k : Nat} {q : List Rat} {c d : Rat} (hl : q.length ≤ 65) (hq : Fl k q) (hc : ht c ≤ k) (hd : ht d ≤ k) (hk : k ≤ 67108864) (t : Nat) : ht (overF (q.drop t) c d).1 ≤ 17179869184 ∧ ht (overF (q.drop t) c d).2 ≤ 17179869184 := by
  obtain ⟨g1, g2⟩ := ht_overF (k := k) (m := k) (q.drop t) c d (fun x hx => hq x (List.mem_of_mem_drop hx)) hc hd
  have e : (q.drop t).length * (k + k + 1) ≤ 65 * (k + k + 1) := Nat.mul_le_mul_right _ (by rw [List.length_drop]; omega)
  omega
theorem getQ {q : List Rat} {n : Nat} {v : Rat} (h : q[n]? = some v) : (q.map mkR)[n]? = some (mkR v) := by rw [List.getElem?_map, h]; rfl
theorem CPo.Over (q : List Rat) (r : ARange) (hc : chk (q.map mkR) = 0) (hq : Fl 67108864 q) (hr : FitG 67108864 r) : Contract prg 84 [polyPV (q.map mkR), r.pv] (.tup [(mkG (overF q (loG r) (hiG r)).1 (overF q (loG r) (hiG r)).2).pv, .nilI]) := by
  have hlm : (q.map mkR).length = q.length := List.length_map ..
  have hl : q.length ≤ 65 := by have := chk_len hc; omega
  have hck := CPo.Check (q.map mkR) (fit_map (fun x hx => Nat.le_trans (hq x hx) (by omega)))
  rw [hc] at hck
  have r1 := ht_loG hr (by omega)
  have r2 := ht_hiG hr (by omega)
  have fr : FitG 34359738368 r := ⟨by omega, by omega⟩
  have loop : ∀ (n : Nat) (s : ARange), n ≤ q.length → (n < q.length → s = mkG (overF (q.drop n) (loG r) (hiG r)).1 (overF (q.drop n) (loG r) (hiG r)).2) → (n = q.length → s = mkG 0 0) → poly_Over.Loop1 (q.map mkR) ((n : Int) - 1) r s (.tup [(mkG (overF q (loG r) (hiG r)).1 (overF q (loG r) (hiG r)).2).pv, .nilI]) := by
    intro n
    induction n with
    | zero =>
      intro s _ h1 h2
      have e : s = mkG (overF q (loG r) (hiG r)).1 (overF q (loG r) (hiG r)).2 := by
        by_cases h0 : q.length = 0
        · rw [h2 h0.symm, List.eq_nil_of_length_eq_zero h0]; rfl
        · have := h1 (by omega); rwa [List.drop_zero] at this
      rw [← e]
      exact poly_Over.l12 _ _ r s (by omega)
    | succ n ih =>
      intro s hn h1 h2
      obtain ⟨v, hv⟩ : ∃ v, q[n]? = some v := ⟨_, List.getElem?_eq_getElem (by omega)⟩
      have hvk := hq v (List.mem_of_getElem? hv)
      have hd := drop_cons hv
      obtain ⟨o1, o2⟩ := over_fit hl hq r1 r2 (by omega) (n + 1)
      by_cases hlast : n + 1 = q.length
      · refine poly_Over.l10 _ _ r s n (mkR v) _ (by omega) (by unfold InI64; omega) (by omega) (by omega) (getQ hv) (CIv.Point v (by omega)) (by unfold InI64; omega) ?_
        have := ih (mkG v v) (by omega) (fun _ => by rw [hd, List.drop_of_length_le (by omega), overF_one]) (by omega)
        rwa [show ((n + 1 : Nat) : Int) - 1 - 1 = (n : Int) - 1 from by omega]
      · have es := h1 (by omega)
        have ho := overF_le (q.drop (n + 1)) (loG r) (hiG r)
        have m := CIv.Mul s r (by rw [es]; exact fit_mkG (by omega) (by omega)) fr
        have ht1 := ht_mulLo o1 o2 r1 r2
        have ht2 := ht_mulHi o1 o2 r1 r2
        rw [es, loG_mk ho, hiG_mk ho] at m
        have hm := mulLo_le (overF (q.drop (n + 1)) (loG r) (hiG r)).1 (overF (q.drop (n + 1)) (loG r) (hiG r)).2 (loG r) (hiG r)
        have a := CIv.Add (mkG (mulLo (overF (q.drop (n + 1)) (loG r) (hiG r)).1 (overF (q.drop (n + 1)) (loG r) (hiG r)).2 (loG r) (hiG r)) (mulHi (overF (q.drop (n + 1)) (loG r) (hiG r)).1 (overF (q.drop (n + 1)) (loG r) (hiG r)).2 (loG r) (hiG r))) (mkG v v) (fit_mkG (by omega) (by omega)) (fit_mkG (by omega) (by omega))
        rw [loG_mk hm, hiG_mk hm, loG_mk Rat.le_refl, hiG_mk Rat.le_refl] at a
        rw [← es] at m
        refine poly_Over.l11 _ _ r s _ n (mkR v) _ _ (by omega) (by unfold InI64; omega) (by omega) m (by omega) (getQ hv) (CIv.Point v (by omega)) a (by unfold InI64; omega) ?_
        have := ih _ (by omega) (fun _ => by rw [hd]) (by omega)
        rwa [show ((n + 1 : Nat) : Int) - 1 - 1 = (n : Int) - 1 from by omega]
  have := loop q.length (mkG 0 0) (Nat.le_refl _) (by omega) (fun _ => rfl)
  refine poly_Over.e0 _ r hck (by unfold InI64; omega) ?_
  rw [hlm]; exact this
end Go.Proofs.YtcgbmnkgmepikaaGreat.Sym
namespace Go.Proofs.YtcgbmnkgmepikaaGreat.Sym
open Go Path CInt
set_option linter.unusedVariables false
def brkW (l : ALaw) (i : Nat) : Rat := match l.breaks[i]? with
  | some b => b.val
  | none => 0
def pcW (l : ALaw) (i : Nat) : List Rat := match l.pieces[i]? with
  | some p => vals p
  | none => []
def lenW (l : ALaw) (i : Nat) : Rat := endW l i - brkW l i
theorem brkW_of {l : ALaw} {i : Nat} {b : ARat} (h : l.breaks[i]? = some b) : brkW l i = b.val := by unfold brkW; rw [h]
theorem pcW_of {l : ALaw} {i : Nat} {p : List ARat} (h : l.pieces[i]? = some p) : pcW l i = vals p := by unfold pcW; rw [h]
theorem ht_endW {l : ALaw} {k : Nat} (hf : FitW k l) (hk : 1 ≤ k) (i : Nat) : ht (endW l i) ≤ k := by
  unfold endW
  cases h : l.breaks[i + 1]? with
  | some v => have hv := hf.1 v (List.mem_of_getElem? h); exact ht_fit hv.1 hv.2 hk
  | none => exact Nat.le_trans (show ht ((1 : Int) : Rat) ≤ 1 from by decide) hk
theorem ht_brkW {l : ALaw} {k : Nat} (hf : FitW k l) (hk : 1 ≤ k) (i : Nat) : ht (brkW l i) ≤ k := by
  unfold brkW
  cases h : l.breaks[i]? with
  | some v => have hv := hf.1 v (List.mem_of_getElem? h); exact ht_fit hv.1 hv.2 hk
  | none => exact Nat.le_trans (Nat.le_of_eq ht_zero) hk
theorem ht_lenW {l : ALaw} {k : Nat} (hf : FitW k l) (hk : 1 ≤ k) (i : Nat) : ht (lenW l i) ≤ 2 * k + 1 := by
  have h1 := ht_endW hf hk i
  have h2 := ht_brkW hf hk i
  have h3 := ht_sub (endW l i) (brkW l i)
  unfold lenW; omega
theorem fl_pcW {l : ALaw} {k : Nat} (hf : FitW k l) (hk : 1 ≤ k) (i : Nat) : Fl k (pcW l i) := by
  unfold pcW
  cases h : l.pieces[i]? with
  | some p => exact fl_vals (hf.2 p (List.mem_of_getElem? h)) hk
  | none => exact fun x hx => by cases hx
theorem Good.at {l : ALaw} (g : Good l) {t : Nat} (h : t < l.pieces.length) : ∃ b p, l.breaks[t]? = some b ∧ l.pieces[t]? = some p ∧ b = mkR (brkW l t) ∧ p = (pcW l t).map mkR ∧ chk p = 0 ∧ p.length ≤ 9 := by
  have hlen := g.len
  obtain ⟨b, hb⟩ : ∃ b, l.breaks[t]? = some b := ⟨_, List.getElem?_eq_getElem (by omega)⟩
  obtain ⟨p, hp⟩ : ∃ p, l.pieces[t]? = some p := ⟨_, List.getElem?_eq_getElem h⟩
  obtain ⟨h1, h2⟩ := g.ps p (List.mem_of_getElem? hp)
  refine ⟨b, p, hb, hp, ?_, ?_, h1, h2⟩
  · rw [brkW_of hb, mkR_of (List.all_eq_true.1 g.valid b (List.mem_of_getElem? hb))]
  · rw [pcW_of hp, vals_of (chk_valid h1)]
theorem pcW_len {l : ALaw} (g : Good l) (t : Nat) : (pcW l t).length ≤ 9 := by
  unfold pcW
  cases h : l.pieces[t]? with
  | some p => have := (g.ps p (List.mem_of_getElem? h)).2; unfold vals; rw [List.length_map]; exact this
  | none => simp
def overW (l : ALaw) (t : Nat) : Rat × Rat := overF (pcW l t) 0 (lenW l t)
def boundsF (l : ALaw) : Nat → Nat → Rat × Rat → Rat × Rat
  | 0, _, a => a
  | j + 1, t, a => boundsF l j (t + 1) (bif Nat.beq t 0 then overW l t else (minR a.1 (overW l t).1, maxR a.2 (overW l t).2))
def boundsW (l : ALaw) : Rat × Rat := boundsF l l.pieces.length 0 (0, 0)
theorem asc_get {q : List Rat} (h : q.Pairwise (· < ·)) {i j : Nat} {x y : Rat} (hi : q[i]? = some x) (hj : q[j]? = some y) (hij : i < j) : x < y := by
  obtain ⟨a1, a2⟩ := List.getElem?_eq_some_iff.1 hi
  obtain ⟨b1, b2⟩ := List.getElem?_eq_some_iff.1 hj
  have := List.pairwise_iff_getElem.1 h i j a1 b1 hij
  rwa [a2, b2] at this
theorem endW_gt {l : ALaw} (g : Good l) {t : Nat} (h : t < l.breaks.length) : brkW l t < endW l t := by
  obtain ⟨b, hb⟩ : ∃ b, l.breaks[t]? = some b := ⟨_, List.getElem?_eq_getElem h⟩
  rw [brkW_of hb]
  unfold endW
  cases h2 : l.breaks[t + 1]? with
  | none => have := (g.unit b (List.mem_of_getElem? hb)).2; show b.val < ((1 : Int) : Rat); exact this
  | some c =>
    have hv1 : (vals l.breaks)[t]? = some b.val := by unfold vals; rw [List.getElem?_map, hb]; rfl
    have hv2 : (vals l.breaks)[t + 1]? = some c.val := by unfold vals; rw [List.getElem?_map, h2]; rfl
    exact asc_get g.asc hv1 hv2 (Nat.lt_succ_self t)
theorem lenW_pos {l : ALaw} (g : Good l) {t : Nat} (h : t < l.breaks.length) : 0 < lenW l t := by
  have := endW_gt g h
  unfold lenW; grind
theorem overW_le (l : ALaw) (t : Nat) : (overW l t).1 ≤ (overW l t).2 := overF_le _ _ _
theorem ht_overW {l : ALaw} (g : Good l) (hf : FitW 1048576 l) (t : Nat) : ht (overW l t).1 ≤ 17179869184 ∧ ht (overW l t).2 ≤ 17179869184 := by
  have h := over_fit (k := 67108864) (q := pcW l t) (c := 0) (d := lenW l t) (Nat.le_trans (pcW_len g t) (by omega)) (fun y hy => Nat.le_trans (fl_pcW hf (by omega) t y hy) (by omega)) (by decide) (Nat.le_trans (ht_lenW hf (by omega) t) (by omega)) (by omega) 0
  rwa [List.drop_zero] at h
theorem fitG_len {l : ALaw} (hf : FitW 1048576 l) (t : Nat) : FitG 67108864 (mkG 0 (lenW l t)) := fit_mkG (by decide) (Nat.le_trans (ht_lenW hf (by omega) t) (by omega))
namespace CLw
theorem length (l : ALaw) (g : Good l) (hf : FitW 1048576 l) {t : Nat} (h : t < l.pieces.length) : Contract prg 85 [l.pv, vI (t : Int)] (mkR (lenW l t)).pv := by
  obtain ⟨b, p, hb, hp, eb, ep, hc, h9⟩ := g.at h
  have hlen := g.len
  have hle := g.le
  have h1 := ht_endW hf (by omega) t
  have h2 := ht_brkW hf (by omega) t
  rw [eb] at hb
  exact law_length.e0 l t _ t _ _ (end' l t (by omega) (by omega) g.valid) rfl hb (QF.Sub _ _ (by omega) (by omega))
theorem Bounds (l : ALaw) (hc : chkLaw l = 0) (hf : FitW 1048576 l) : Contract prg 34 [l.pv] (.tup [(mkG (boundsW l).1 (boundsW l).2).pv, .nilI]) := by
  have g := good_of hc
  have hck := Check l ⟨fun a ha => ⟨by have := (hf.1 a ha).1; omega, by have := (hf.1 a ha).2; omega⟩, fun p hp a ha => ⟨by have := (hf.2 p hp a ha).1; omega, by have := (hf.2 p hp a ha).2; omega⟩⟩
  rw [hc] at hck
  have hlen := g.len
  have hle := g.le
  have loop : ∀ (j t : Nat) (u : Rat × Rat), l.pieces.length - t = j → (t ≠ 0 → u.1 ≤ u.2 ∧ ht u.1 ≤ 17179869184 ∧ ht u.2 ≤ 17179869184) → law_Bounds.Loop1 l t (mkG u.1 u.2) (.tup [(mkG (boundsF l j t u).1 (boundsF l j t u).2).pv, .nilI]) := by
    intro j
    induction j with
    | zero => intro t u hj _; exact law_Bounds.l13 l t _ (by omega)
    | succ j ih =>
      intro t u hj hu
      have ht : t < l.pieces.length := by omega
      obtain ⟨b, p, hb, hp, eb, ep, hcp, h9⟩ := g.at ht
      rw [ep] at hp hcp
      have hl := lenW_pos g (t := t) (by omega)
      have ov := CPo.Over (pcW l t) (mkG 0 (lenW l t)) hcp (fun y hy => Nat.le_trans (fl_pcW hf (by omega) t y hy) (by omega)) (fitG_len hf t)
      rw [loG_mk (Rat.le_of_lt hl), hiG_mk (Rat.le_of_lt hl)] at ov
      obtain ⟨o1, o2⟩ := ht_overW g hf t
      have ol := overW_le l t
      by_cases h0 : t = 0
      · subst h0
        have hh := CIv.Hull (mkG (overW l 0).1 (overW l 0).2) (mkG (overW l 0).1 (overW l 0).2) (fit_mkG (by omega) (by omega)) (fit_mkG (by omega) (by omega))
        rw [loG_mk ol, hiG_mk ol, minR_self, maxR_self] at hh
        exact law_Bounds.l10 l 0 _ _ _ _ _ ht hp (length l g hf ht) ov rfl hh (by omega) (ih 1 (overW l 0) (by omega) (fun _ => ⟨ol, o1, o2⟩))
      · obtain ⟨u1, u2, u3⟩ := hu h0
        have hh := CIv.Hull (mkG u.1 u.2) (mkG (overW l t).1 (overW l t).2) (fit_mkG (by omega) (by omega)) (fit_mkG (by omega) (by omega))
        rw [loG_mk ol, hiG_mk ol, loG_mk u1, hiG_mk u1] at hh
        rw [boundsF, beq_fal.2 h0, cond_false]
        refine law_Bounds.l11 l t _ _ _ _ _ ht hp (length l g hf ht) ov h0 hh (by omega) (ih (t + 1) (minR u.1 (overW l t).1, maxR u.2 (overW l t).2) (by omega) (fun _ => ⟨?_, ht_min _ _ u2 o1, ht_max _ _ u3 o2⟩))
        exact Rat.le_trans (minR_le_l _ _) (Rat.le_trans u1 (maxR_ge_l _ _))
  exact law_Bounds.e0 l hck (loop _ 0 (0, 0) rfl (fun h => absurd rfl h))
end CLw
end Go.Proofs.YtcgbmnkgmepikaaGreat.Sym
namespace Go.Proofs.YtcgbmnkgmepikaaGreat.Sym
open Go Path CInt
set_option linter.unusedVariables false
def constB (l : ALaw) (t : Nat) : Bool := Nat.ble (pcW l t).length 1
def valW (l : ALaw) (t : Nat) : Rat := evalL (pcW l t) 0
def openB (l : ALaw) (t : Nat) : Bool := bif Nat.beq t 0 then false else constB l (t - 1)
def contB (l : ALaw) (t : Nat) : Bool := openB l t && decide (valW l (t - 1) = valW l t)
def lastTo (acc : List (Rat × Rat)) (e : Rat) : List (Rat × Rat) := match acc[acc.length - 1]? with
  | some v => acc.set (acc.length - 1) (v.1, e)
  | none => acc
def dwellsF (l : ALaw) : Nat → Nat → List (Rat × Rat) → List (Rat × Rat)
  | 0, _, acc => acc
  | j + 1, t, acc => bif constB l t then (bif contB l t then dwellsF l j (t + 1) (lastTo acc (endW l t)) else dwellsF l j (t + 1) (acc ++ [(brkW l t, endW l t)])) else dwellsF l j (t + 1) acc
def dwellsW (l : ALaw) : List (Rat × Rat) := dwellsF l l.pieces.length 0 []
def arcR (p : Rat × Rat) : AArc := ⟨mkR p.1, mkR p.2⟩
theorem lastTo_len (acc : List (Rat × Rat)) (e : Rat) : (lastTo acc e).length = acc.length := by
  unfold lastTo; split <;> simp
theorem ble_iff {a b : Nat} : Nat.ble a b = true ↔ a ≤ b := ⟨Nat.le_of_ble_eq_true, Nat.ble_eq_true_of_le⟩
theorem ble_fal {a b : Nat} : Nat.ble a b = false ↔ b < a := by
  constructor
  · intro h; exact Nat.not_le.1 fun e => by rw [ble_iff.2 e] at h; cases h
  · intro h
    cases hb : Nat.ble a b with
    | true => have := ble_iff.1 hb; omega
    | false => rfl
theorem openB_succ (l : ALaw) (t : Nat) : openB l (t + 1) = constB l t := rfl
theorem openB_zero (l : ALaw) : openB l 0 = false := rfl
theorem const_cases {q : List Rat} (h : q.length ≤ 1) (hz : lastZ q = false) : q = [] ∨ ∃ a, q = [a] ∧ a ≠ 0 := by
  match q with
  | [] => exact Or.inl rfl
  | [a] => exact Or.inr ⟨a, rfl, of_decide_eq_false hz⟩
  | a :: b :: r => simp at h
theorem eval_one (a : Rat) : evalL [a] 0 = a := by show 0 * 0 + a = a; grind
theorem chkQ_last {q : List Rat} (h : chk (q.map mkR) = 0) : lastZ q = false := by have := chk_last h; rwa [vals_mkR] at this
namespace CLw
theorem same {p q : List Rat} (hp : p.length ≤ 1) (hq : q.length ≤ 1) (zp : lastZ p = false) (zq : lastZ q = false) (fp : Fl 68719476736 p) (fq : Fl 68719476736 q) : Contract prg 87 [polyPV (p.map mkR), polyPV (q.map mkR)] (vB (decide (evalL p 0 = evalL q 0))) := by
  rcases const_cases hp zp with rfl | ⟨a, rfl, ha⟩
  · rcases const_cases hq zq with rfl | ⟨b, rfl, hb⟩
    · exact law_same.e0 _ _ rfl rfl
    · rw [decide_eq_false (by rw [eval_one]; intro e; exact hb e.symm)]
      exact law_same.e2 _ _ (by simp)
  · rcases const_cases hq zq with rfl | ⟨b, rfl, hb⟩
    · rw [decide_eq_false (by rw [eval_one]; exact ha)]
      exact law_same.e2 _ _ (by simp)
    · have c := QF.Cmp a b (fp a (by simp)) (fq b (by simp))
      have := law_same.e1 ([a].map mkR) ([b].map mkR) _ _ _ rfl (by simp) rfl rfl c
      rw [eval_one, eval_one]
      rwa [show ((cmpR a b) == 0) = decide (a = b) from by
        rw [show ((cmpR a b) == 0) = decide (cmpR a b = 0) from rfl]
        exact decide_eq_decide.2 cmpR_eq] at this
theorem Dwells (l : ALaw) (hc : chkLaw l = 0) (hf : FitW 1048576 l) : Contract prg 35 [l.pv] (.tup [lpv AArc.cells ((dwellsW l).map arcR), .nilI]) := by
  have g := good_of hc
  have hck := Check l ⟨fun a ha => ⟨by have := (hf.1 a ha).1; omega, by have := (hf.1 a ha).2; omega⟩, fun p hp a ha => ⟨by have := (hf.2 p hp a ha).1; omega, by have := (hf.2 p hp a ha).2; omega⟩⟩
  rw [hc] at hck
  have hlen := g.len
  have hle := g.le
  have loop : ∀ (j t : Nat) (acc : List (Rat × Rat)), l.pieces.length - t = j → acc.length ≤ t → (openB l t = true → acc ≠ []) → t ≤ l.pieces.length → law_Dwells.Loop1 acc.length (openB l t) l t (acc.map arcR) (.tup [lpv AArc.cells ((dwellsF l j t acc).map arcR), .nilI]) := by
    intro j
    induction j with
    | zero => intro t acc hj _ _ _; exact law_Dwells.l14 _ _ l t _ (by omega) (by simp)
    | succ j ih =>
      intro t acc hj hal hao htl
      have ht : t < l.pieces.length := by omega
      obtain ⟨b, p, hb, hp, eb, ep, hcp, h9⟩ := g.at ht
      rw [ep] at hp hcp
      rw [eb] at hb
      have he := end' l t (by omega) (by omega) g.valid
      have e1 := ht_endW hf (by omega) t
      have e2 := ht_brkW hf (by omega) t
      have z1 := QF.addZ (endW l t) (by omega)
      have z2 := QF.addZ (brkW l t) (by omega)
      rw [dwellsF]
      cases hcb : constB l t with
      | false =>
        have := ble_fal.1 hcb
        refine law_Dwells.l10 _ _ l t _ _ ht hp (by simpa using this) (by omega) ?_
        have := ih (t + 1) acc (by omega) (by omega) (by rw [openB_succ, hcb]; intro h; cases h) (by omega)
        rwa [openB_succ, hcb] at this
      | true =>
        have h1 := ble_iff.1 hcb
        rw [cond_true]
        cases ho : openB l t with
        | false =>
          rw [show contB l t = false from by unfold contB; rw [ho]; rfl, cond_false]
          refine law_Dwells.l13 _ _ l t _ _ _ _ _ _ ht hp (by simpa using h1) rfl hb z2 he z1 (by simp) (by simp; omega) (by omega) ?_
          have := ih (t + 1) (acc ++ [(brkW l t, endW l t)]) (by omega) (by simp; omega) (by simp) (by omega)
          rw [openB_succ, hcb] at this
          rwa [List.map_append, show (acc ++ [(brkW l t, endW l t)]).length = (acc.map arcR ++ [arcR (brkW l t, endW l t)]).length from by simp] at this
        | true =>
          have hne := hao ho
          obtain ⟨u, rfl⟩ : ∃ u, t = u + 1 := by
            cases t with
            | zero => rw [openB_zero] at ho; cases ho
            | succ u => exact ⟨u, rfl⟩
          obtain ⟨b', p', hb', hp', eb', ep', hcp', h9'⟩ := g.at (t := u) (by omega)
          rw [ep'] at hp' hcp'
          have h1' := ble_iff.1 (show Nat.ble (pcW l u).length 1 = true from ho)
          have sm := same h1' h1 (chkQ_last hcp') (chkQ_last hcp) (fun y hy => Nat.le_trans (fl_pcW hf (by omega) u y hy) (by omega)) (fun y hy => Nat.le_trans (fl_pcW hf (by omega) (u + 1) y hy) (by omega))
          by_cases hv : evalL (pcW l u) 0 = evalL (pcW l (u + 1)) 0
          · rw [show contB l (u + 1) = true from by unfold contB; rw [ho, Bool.true_and]; exact decide_eq_true hv, cond_true]
            have hpos : 0 < acc.length := List.length_pos_iff.2 hne
            obtain ⟨w, hw⟩ : ∃ w, acc[acc.length - 1]? = some w := ⟨_, List.getElem?_eq_getElem (by omega)⟩
            refine law_Dwells.l11 _ _ l (u + 1) _ _ u _ _ _ _ (acc.length - 1) (arcR w) ht hp (by simpa using h1) rfl (by unfold InI64; omega) (by omega) hp' sm (decide_eq_true hv) (by unfold InI64; omega) he z1 (by omega) (by omega) (by rw [List.getElem?_map, hw]; rfl) (by omega) ?_
            have := ih (u + 1 + 1) (lastTo acc (endW l (u + 1))) (by omega) (by rw [lastTo_len]; omega) (by intro _ e; rw [← List.length_eq_zero_iff, lastTo_len] at e; omega) (by omega)
            rw [openB_succ, hcb, lastTo_len] at this
            have e : (lastTo acc (endW l (u + 1))).map arcR = (acc.map arcR).set (acc.length - 1) ⟨(arcR w).fromV, mkR (endW l (u + 1))⟩ := by
              unfold lastTo
              rw [hw]
              rw [List.map_set]; rfl
            rwa [e] at this
          · rw [show contB l (u + 1) = false from by unfold contB; rw [ho, Bool.true_and]; exact decide_eq_false hv, cond_false]
            refine law_Dwells.l12 _ _ l (u + 1) _ _ u _ _ _ _ _ _ ht hp (by simpa using h1) rfl (by unfold InI64; omega) (by omega) hp' sm (decide_eq_false hv) hb z2 he z1 (by simp) (by simp; omega) (by omega) ?_
            have := ih (u + 1 + 1) (acc ++ [(brkW l (u + 1), endW l (u + 1))]) (by omega) (by simp; omega) (by simp) (by omega)
            rw [openB_succ, hcb] at this
            rwa [List.map_append, show (acc ++ [(brkW l (u + 1), endW l (u + 1))]).length = (acc.map arcR ++ [arcR (brkW l (u + 1), endW l (u + 1))]).length from by simp] at this
  exact law_Dwells.e0 l hck (loop _ 0 [] rfl (by simp) (by rw [openB_zero]; intro h; cases h) (by omega))
end CLw
end Go.Proofs.YtcgbmnkgmepikaaGreat.Sym
namespace Go.Proofs.YtcgbmnkgmepikaaGreat.Sym
open Go Path CInt
set_option linter.unusedVariables false
theorem lin_lo {a c d x : Rat} (h1 : c ≤ x) (h2 : x ≤ d) : minR (a * c) (a * d) ≤ a * x := by
  rcases Rat.le_total (a := 0) (b := a) with h | h
  · have := Rat.mul_nonneg h (show 0 ≤ x - c by grind)
    have := minR_le_l (a * c) (a * d)
    grind
  · have := Rat.mul_nonneg (show 0 ≤ -a by grind) (show 0 ≤ d - x by grind)
    have := minR_le_r (a * c) (a * d)
    grind
theorem lin_hi {a c d x : Rat} (h1 : c ≤ x) (h2 : x ≤ d) : a * x ≤ maxR (a * c) (a * d) := by
  rcases Rat.le_total (a := 0) (b := a) with h | h
  · have := Rat.mul_nonneg h (show 0 ≤ d - x by grind)
    have := maxR_ge_r (a * c) (a * d)
    grind
  · have := Rat.mul_nonneg (show 0 ≤ -a by grind) (show 0 ≤ x - c by grind)
    have := maxR_ge_l (a * c) (a * d)
    grind
theorem mul_in {a b c d x y : Rat} (h1 : a ≤ y) (h2 : y ≤ b) (h3 : c ≤ x) (h4 : x ≤ d) : mulLo a b c d ≤ y * x ∧ y * x ≤ mulHi a b c d := by
  unfold mulLo mulHi
  have l1 := lin_lo (a := a) h3 h4
  have l2 := lin_lo (a := b) h3 h4
  have l3 := lin_lo (a := x) h1 h2
  have u1 := lin_hi (a := a) h3 h4
  have u2 := lin_hi (a := b) h3 h4
  have u3 := lin_hi (a := x) h1 h2
  constructor
  · refine Rat.le_trans (le_minR (a := minR (minR (minR (a * c) (a * d)) (b * c)) (b * d)) (p := x * a) (q := x * b) ?_ ?_) (by grind)
    · exact Rat.le_trans (minR_le_l _ _) (Rat.le_trans (minR_le_l _ _) (by grind))
    · refine Rat.le_trans (le_minR (p := b * c) (q := b * d) ?_ (minR_le_r _ _)) (by grind)
      exact Rat.le_trans (minR_le_l _ _) (minR_le_r _ _)
  · refine Rat.le_trans (show y * x ≤ maxR (x * a) (x * b) by grind) (maxR_le ?_ ?_)
    · exact Rat.le_trans (show x * a ≤ maxR (a * c) (a * d) by grind) (Rat.le_trans (maxR_ge_l _ _) (maxR_ge_l _ _))
    · refine Rat.le_trans (show x * b ≤ maxR (b * c) (b * d) by grind) (maxR_le ?_ (maxR_ge_r _ _))
      exact Rat.le_trans (maxR_ge_r _ _) (maxR_ge_l _ _)
theorem overF_in {c d x : Rat} (h1 : c ≤ x) (h2 : x ≤ d) : ∀ q : List Rat, (overF q c d).1 ≤ evalL q x ∧ evalL q x ≤ (overF q c d).2
  | [] => ⟨Rat.le_refl, Rat.le_refl⟩
  | a :: r => by
    obtain ⟨g1, g2⟩ := overF_in h1 h2 r
    obtain ⟨m1, m2⟩ := mul_in g1 g2 h1 h2
    show mulLo _ _ _ _ + a ≤ evalL r x * x + a ∧ evalL r x * x + a ≤ mulHi _ _ _ _ + a
    constructor <;> grind
theorem frac_lt (x : Rat) : frac x < 1 := by
  have := Rat.lt_floor_add_one x
  have e : ((x.floor + 1 : Int) : Rat) = (x.floor : Rat) + 1 := by simp
  unfold frac
  grind
theorem frac_ge (x : Rat) : 0 ≤ frac x := by
  have := Rat.floor_le (a := x)
  unfold frac
  grind
theorem floor_eq {x : Rat} {n : Int} (h1 : (n : Rat) ≤ x) (h2 : x < (n : Rat) + 1) : x.floor = n := by
  have a := Rat.le_floor_iff.2 h1
  have b : x.floor < n + 1 := by
    have := Rat.floor_lt_iff (a := x) (x := n + 1)
    rw [this]
    have : ((n + 1 : Int) : Rat) = (n : Rat) + 1 := by simp
    rw [this]; exact h2
  omega
theorem frac_add (x : Rat) (n : Int) : frac (x + n) = frac x := by
  unfold frac
  rw [Rat.floor_add_intCast]
  have : ((x.floor + n : Int) : Rat) = (x.floor : Rat) + n := by simp
  grind
theorem frac_id {x : Rat} (h1 : 0 ≤ x) (h2 : x < 1) : frac x = x := by
  have e : x.floor = 0 := floor_eq (by exact h1) (by have : (((0 : Int) : Rat)) = 0 := rfl
                                                     grind)
  unfold frac
  rw [e]
  have : (((0 : Int) : Rat)) = 0 := rfl
  grind
theorem piece_spec {l : ALaw} (g : Good l) {y : Rat} (h0 : 0 ≤ y) (h1 : y < 1) : pieceL (vals l.breaks) y < l.breaks.length ∧ brkW l (pieceL (vals l.breaks) y) ≤ y ∧ y < endW l (pieceL (vals l.breaks) y) := by
  have hl : (vals l.breaks).length = l.breaks.length := List.length_map ..
  have hn0 := g.n0
  have hlt := pieceL_lt (bs := vals l.breaks) (by omega) y
  have key : ∀ (r : List Rat) (i : Nat), pieceF r y = i → (∀ j b, j < i → r[j]? = some b → b ≤ y) ∧ (∀ b, r[i]? = some b → y < b) := by
    intro r
    induction r with
    | nil => intro i hi; exact ⟨fun j b _ h => by simp at h, fun b h => by simp at h⟩
    | cons a r ih =>
      intro i hi
      rw [pieceF] at hi
      by_cases ha : a ≤ y
      · rw [decide_eq_true ha, cond_true] at hi
        subst hi
        obtain ⟨k1, k2⟩ := ih _ rfl
        refine ⟨fun j b hj h => ?_, fun b h => k2 b (by simpa using h)⟩
        cases j with
        | zero => simp at h; rw [← h]; exact ha
        | succ j => exact k1 j b (by omega) (by simpa using h)
      · rw [decide_eq_false ha, cond_false] at hi
        subst hi
        exact ⟨fun j b hj => by omega, fun b h => by simp at h; rw [← h]; grind⟩
  obtain ⟨k1, k2⟩ := key ((vals l.breaks).drop 1) _ rfl
  have k1 : ∀ j b, j < pieceL (vals l.breaks) y → ((vals l.breaks).drop 1)[j]? = some b → b ≤ y := k1
  have k2 : ∀ b, ((vals l.breaks).drop 1)[pieceL (vals l.breaks) y]? = some b → y < b := k2
  generalize pieceL (vals l.breaks) y = i at hlt k1 k2 ⊢
  refine ⟨by omega, ?_, ?_⟩
  · cases i with
    | zero =>
      obtain ⟨b, hb⟩ : ∃ b, l.breaks[0]? = some b := ⟨_, List.getElem?_eq_getElem (by omega)⟩
      rw [brkW_of hb, g.first b hb]; exact h0
    | succ i =>
      obtain ⟨b, hb⟩ : ∃ b, l.breaks[i + 1]? = some b := ⟨_, List.getElem?_eq_getElem (by omega)⟩
      rw [brkW_of hb]
      refine k1 i b.val (by omega) ?_
      rw [List.getElem?_drop, Nat.add_comm]
      unfold vals; rw [List.getElem?_map, hb]; rfl
  · unfold endW
    cases hb : l.breaks[i + 1]? with
    | none => show y < ((1 : Int) : Rat); exact h1
    | some b =>
      refine k2 b.val ?_
      rw [List.getElem?_drop, Nat.add_comm]
      unfold vals; rw [List.getElem?_map, hb]; rfl
theorem endW_next {l : ALaw} {t : Nat} (h : t + 1 < l.breaks.length) : endW l t = brkW l (t + 1) := by
  obtain ⟨b, hb⟩ : ∃ b, l.breaks[t + 1]? = some b := ⟨_, List.getElem?_eq_getElem h⟩
  unfold endW
  rw [hb, brkW_of hb]
theorem endW_le1 {l : ALaw} (g : Good l) (t : Nat) : endW l t ≤ 1 := by
  unfold endW
  cases hb : l.breaks[t + 1]? with
  | none => exact Rat.le_refl
  | some b => exact Rat.le_of_lt (g.unit b (List.mem_of_getElem? hb)).2
theorem brkW_ge0 {l : ALaw} (g : Good l) (t : Nat) : 0 ≤ brkW l t := by
  unfold brkW
  cases hb : l.breaks[t]? with
  | none => exact Rat.le_refl
  | some b => exact (g.unit b (List.mem_of_getElem? hb)).1
theorem brk_mono {l : ALaw} (g : Good l) {i j : Nat} (hj : j < l.breaks.length) (hij : i < j) : brkW l i < brkW l j := by
  obtain ⟨b, hb⟩ : ∃ b, l.breaks[i]? = some b := ⟨_, List.getElem?_eq_getElem (by omega)⟩
  obtain ⟨c, hc⟩ : ∃ c, l.breaks[j]? = some c := ⟨_, List.getElem?_eq_getElem hj⟩
  rw [brkW_of hb, brkW_of hc]
  exact asc_get g.asc (by unfold vals; rw [List.getElem?_map, hb]; rfl) (by unfold vals; rw [List.getElem?_map, hc]; rfl) hij
theorem piece_uniq {l : ALaw} (g : Good l) {y : Rat} {t : Nat} (ht : t < l.breaks.length) (h1 : brkW l t ≤ y) (h2 : y < endW l t) : pieceL (vals l.breaks) y = t := by
  have h0 := brkW_ge0 g t
  have h3 := endW_le1 g t
  obtain ⟨s1, s2, s3⟩ := piece_spec g (y := y) (by grind) (by grind)
  generalize pieceL (vals l.breaks) y = i at s1 s2 s3 ⊢
  rcases Nat.lt_trichotomy i t with h | h | h
  · have : endW l i = brkW l (i + 1) := endW_next (by omega)
    by_cases e : i + 1 = t
    · rw [e] at this; grind
    · have := brk_mono g (i := i + 1) ht (by omega); grind
  · exact h
  · have : endW l t = brkW l (t + 1) := endW_next (by omega)
    by_cases e : t + 1 = i
    · rw [e] at this; grind
    · have := brk_mono g (i := t + 1) s1 (by omega); grind
theorem atW_eq {l : ALaw} (x : Rat) : atW l x = evalL (pcW l (pieceL (vals l.breaks) (frac x))) (frac x - brkW l (pieceL (vals l.breaks) (frac x))) := by
  unfold atW pcW brkW
  rw [List.getD_eq_getElem?_getD, List.getD_eq_getElem?_getD]
  cases l.pieces[pieceL (vals l.breaks) (frac x)]? <;> cases l.breaks[pieceL (vals l.breaks) (frac x)]? <;> rfl
theorem atW_frac (l : ALaw) {x y : Rat} (h : frac x = frac y) : atW l x = atW l y := by unfold atW; rw [h]
theorem boundsF_grow (l : ALaw) : ∀ (j t : Nat) (u : Rat × Rat), t ≠ 0 → (boundsF l j t u).1 ≤ u.1 ∧ u.2 ≤ (boundsF l j t u).2
  | 0, _, u, _ => ⟨Rat.le_refl, Rat.le_refl⟩
  | j + 1, t, u, h => by
    rw [boundsF, beq_fal.2 h, cond_false]
    obtain ⟨a, b⟩ := boundsF_grow l j (t + 1) (minR u.1 (overW l t).1, maxR u.2 (overW l t).2) (by omega)
    exact ⟨Rat.le_trans a (minR_le_l _ _), Rat.le_trans (maxR_ge_l _ _) b⟩
theorem boundsF_in (l : ALaw) : ∀ (j t : Nat) (u : Rat × Rat) (i : Nat), t ≤ i → i < t + j → (boundsF l j t u).1 ≤ (overW l i).1 ∧ (overW l i).2 ≤ (boundsF l j t u).2
  | 0, t, u, i, h1, h2 => by omega
  | j + 1, t, u, i, h1, h2 => by
    rw [boundsF]
    by_cases e : i = t
    · subst e
      by_cases h0 : i = 0
      · subst h0
        exact boundsF_grow l j 1 (overW l 0) (by omega)
      · rw [beq_fal.2 h0, cond_false]
        obtain ⟨a, b⟩ := boundsF_grow l j (i + 1) (minR u.1 (overW l i).1, maxR u.2 (overW l i).2) (by omega)
        exact ⟨Rat.le_trans a (minR_le_r _ _), Rat.le_trans (maxR_ge_r _ _) b⟩
    · exact boundsF_in l j (t + 1) _ i (by omega) (by omega)
theorem bounds_le {l : ALaw} (g : Good l) : (boundsW l).1 ≤ (boundsW l).2 := by
  have hn := g.n0
  have hl := g.len
  obtain ⟨a, b⟩ := boundsF_in l l.pieces.length 0 (0, 0) 0 (Nat.le_refl _) (by omega)
  exact Rat.le_trans a (Rat.le_trans (overW_le l 0) b)
theorem at_in {l : ALaw} (g : Good l) (x : Rat) : (boundsW l).1 ≤ atW l x ∧ atW l x ≤ (boundsW l).2 := by
  have hl := g.len
  obtain ⟨s1, s2, s3⟩ := piece_spec g (frac_ge x) (frac_lt x)
  rw [atW_eq]
  generalize pieceL (vals l.breaks) (frac x) = i at s1 s2 s3 ⊢
  obtain ⟨a, b⟩ := boundsF_in l l.pieces.length 0 (0, 0) i (Nat.zero_le _) (by omega)
  obtain ⟨c, d⟩ := overF_in (c := 0) (d := lenW l i) (x := frac x - brkW l i) (by grind) (by unfold lenW; grind) (pcW l i)
  exact ⟨Rat.le_trans a c, Rat.le_trans d b⟩
def Flat (l : ALaw) (p : Rat × Rat) (c : Rat) : Prop := 0 ≤ p.1 ∧ p.2 ≤ 1 ∧ ∀ y, p.1 ≤ y → y < p.2 → constB l (pieceL (vals l.breaks) y) = true ∧ valW l (pieceL (vals l.breaks) y) = c
theorem dwells_flat {l : ALaw} (g : Good l) : ∀ (j t : Nat) (acc : List (Rat × Rat)), t + j = l.pieces.length → (∀ p ∈ acc, ∃ c, Flat l p c) → (openB l t = true → ∃ w, acc[acc.length - 1]? = some w ∧ w.2 = endW l (t - 1) ∧ Flat l w (valW l (t - 1))) → ∀ p ∈ dwellsF l j t acc, ∃ c, Flat l p c
  | 0, _, acc, _, h, _ => h
  | j + 1, t, acc, hj, h, ho => by
    have hlen := g.len
    have own : constB l t = true → Flat l (brkW l t, endW l t) (valW l t) := fun hc => ⟨brkW_ge0 g t, endW_le1 g t, fun y h1 h2 => by rw [piece_uniq g (by omega) h1 h2]; exact ⟨hc, rfl⟩⟩
    rw [dwellsF]
    cases hc : constB l t with
    | false => exact dwells_flat g j (t + 1) acc (by omega) h (by rw [openB_succ, hc]; intro h; cases h)
    | true =>
      rw [cond_true]
      cases hk : contB l t with
      | false =>
        refine dwells_flat g j (t + 1) _ (by omega) ?_ ?_
        · intro p hp
          rcases List.mem_append.1 hp with hp | hp
          · exact h p hp
          · rw [List.mem_singleton.1 hp]; exact ⟨_, own hc⟩
        · intro _
          exact ⟨(brkW l t, endW l t), by simp, rfl, own hc⟩
      | true =>
        unfold contB at hk
        rw [Bool.and_eq_true, decide_eq_true_eq] at hk
        obtain ⟨hk1, hk2⟩ := hk
        obtain ⟨u, rfl⟩ : ∃ u, t = u + 1 := by
          cases t with
          | zero => rw [openB_zero] at hk1; cases hk1
          | succ u => exact ⟨u, rfl⟩
        obtain ⟨w, hw1, hw2, hw3⟩ := ho hk1
        rw [Nat.add_sub_cancel] at hw2 hw3 hk2
        have hn : Flat l (w.1, endW l (u + 1)) (valW l (u + 1)) := by
          refine ⟨hw3.1, endW_le1 g _, fun y h1 h2 => ?_⟩
          by_cases hy : y < w.2
          · rw [← hk2]; exact hw3.2.2 y h1 hy
          · rw [piece_uniq g (t := u + 1) (by omega) (by rw [← endW_next (by omega)]; grind) h2]
            exact ⟨hc, rfl⟩
        have hpos : 0 < acc.length := by
          have := (List.getElem?_eq_some_iff.1 hw1).1; omega
        refine dwells_flat g j (u + 1 + 1) _ (by omega) ?_ ?_
        · intro p hp
          unfold lastTo at hp
          rw [hw1] at hp
          rcases List.mem_or_eq_of_mem_set hp with hp | hp
          · exact h p hp
          · rw [hp]; exact ⟨_, hn⟩
        · intro _
          refine ⟨(w.1, endW l (u + 1)), ?_, rfl, hn⟩
          rw [lastTo_len]
          unfold lastTo
          rw [hw1]
          rw [List.getElem?_set_self (by omega)]
theorem eval_const {q : List Rat} (h : q.length ≤ 1) (x : Rat) : evalL q x = evalL q 0 := by
  match q, h with
  | [], _ => rfl
  | [a], _ => show 0 * x + a = 0 * 0 + a; grind
theorem flat_atW {l : ALaw} {p : Rat × Rat} {c : Rat} (h : Flat l p c) {x : Rat} (h1 : p.1 ≤ frac x) (h2 : frac x < p.2) : atW l x = c := by
  obtain ⟨_, _, h3⟩ := h
  obtain ⟨h4, h5⟩ := h3 _ h1 h2
  rw [atW_eq, eval_const (ble_iff.1 h4)]
  exact h5
theorem deriveW_pc (l : ALaw) (i : Nat) : pcW (deriveW l) i = deriveL (pcW l i) := by
  unfold pcW deriveW
  show (match (l.pieces.map (fun p => (deriveL (vals p)).map mkR))[i]? with | some p => vals p | none => []) = _
  rw [List.getElem?_map]
  cases l.pieces[i]? with
  | none => rfl
  | some p => exact vals_mkR _
theorem deriveW_br (l : ALaw) : vals (deriveW l).breaks = vals l.breaks := vals_mkR _
theorem flat_deriveW {l : ALaw} {p : Rat × Rat} {c : Rat} (h : Flat l p c) {x : Rat} (h1 : p.1 ≤ frac x) (h2 : frac x < p.2) : atW (deriveW l) x = 0 := by
  obtain ⟨_, _, h3⟩ := h
  obtain ⟨h4, h5⟩ := h3 _ h1 h2
  rw [atW_eq, deriveW_pc, deriveW_br]
  have : deriveL (pcW l (pieceL (vals l.breaks) (frac x))) = [] := by
    unfold deriveL
    rw [List.drop_of_length_le (ble_iff.1 h4)]; rfl
  rw [this]; rfl
end Go.Proofs.YtcgbmnkgmepikaaGreat.Sym

namespace Go.Proofs.YtcgbmnkgmepikaaGreat.Sym
open Go Path CInt
set_option linter.unusedVariables false
namespace C52
theorem ht_of4' {a : ARat} (h : a.num.length ≤ 4 ∧ a.den.length ≤ 4) : ht a.val ≤ 4 := ht_fit h.1 h.2 (by omega)
theorem fitW_le {l : ALaw} {k m : Nat} (h : FitW k l) (hk : k ≤ m) : FitW m l :=
  ⟨fun a ha => ⟨by have := (h.1 a ha).1; omega, by have := (h.1 a ha).2; omega⟩, fun p hp a ha => ⟨by have := (h.2 p hp a ha).1; omega, by have := (h.2 p hp a ha).2; omega⟩⟩
end C52
end Go.Proofs.YtcgbmnkgmepikaaGreat.Sym

namespace Go.Proofs.YtcgbmnkgmepikaaGreat.Sym
open Go Path CInt
set_option linter.unusedVariables false
namespace C52
theorem dwellsF_props (l : ALaw) (k : Nat) (hf : FitW k l) (hk : 1 ≤ k) : ∀ (j t : Nat) (acc : List (Rat × Rat)), (∀ p ∈ acc, ht p.1 ≤ k ∧ ht p.2 ≤ k) → (dwellsF l j t acc).length ≤ acc.length + j ∧ ∀ p ∈ dwellsF l j t acc, ht p.1 ≤ k ∧ ht p.2 ≤ k
  | 0, _, acc, h => ⟨Nat.le_refl _, h⟩
  | j + 1, t, acc, h => by
    rw [dwellsF]
    have he := ht_endW hf hk t
    have hb := ht_brkW hf hk t
    cases constB l t with
    | false =>
      obtain ⟨a, b⟩ := dwellsF_props l k hf hk j (t + 1) acc h
      exact ⟨by rw [cond_false]; omega, b⟩
    | true =>
      rw [cond_true]
      cases contB l t with
      | false =>
        obtain ⟨a, b⟩ := dwellsF_props l k hf hk j (t + 1) (acc ++ [(brkW l t, endW l t)]) (fun p hp => by
          rcases List.mem_append.1 hp with hp | hp
          · exact h p hp
          · rw [List.mem_singleton.1 hp]; exact ⟨hb, he⟩)
        exact ⟨by rw [List.length_append, List.length_singleton] at a; rw [cond_false]; omega, b⟩
      | true =>
        obtain ⟨a, b⟩ := dwellsF_props l k hf hk j (t + 1) (lastTo acc (endW l t)) (fun p hp => by
          unfold lastTo at hp
          split at hp
          · rename_i w hw
            rcases List.mem_or_eq_of_mem_set hp with hp | hp
            · exact h p hp
            · rw [hp]; exact ⟨(h w (List.mem_of_getElem? hw)).1, he⟩
          · exact h p hp)
        exact ⟨by rw [lastTo_len] at a; rw [cond_true]; omega, b⟩
theorem boundsF_fit {l : ALaw} (g : Good l) (hf : FitW 1048576 l) : ∀ (j t : Nat) (u : Rat × Rat), ht u.1 ≤ 17179869184 → ht u.2 ≤ 17179869184 → ht (boundsF l j t u).1 ≤ 17179869184 ∧ ht (boundsF l j t u).2 ≤ 17179869184
  | 0, _, u, h1, h2 => ⟨h1, h2⟩
  | j + 1, t, u, h1, h2 => by
    obtain ⟨o1, o2⟩ := ht_overW g hf t
    rw [boundsF]
    cases Nat.beq t 0 with
    | true => exact boundsF_fit g hf j (t + 1) _ o1 o2
    | false => exact boundsF_fit g hf j (t + 1) _ (ht_min _ _ h1 o1) (ht_max _ _ h2 o2)
theorem ratR (q : Rat) (hq : ht q ≤ 68719476736) : Contract prg 17 [(mkR q).pv, (mkR q).pv] (vB true) := by
  have h := fit_mkRk hq
  have := CBa.Rat (mkR q) (mkR q) (by omega) (by omega)
  rwa [eqR_self] at this
end C52
end Go.Proofs.YtcgbmnkgmepikaaGreat.Sym
