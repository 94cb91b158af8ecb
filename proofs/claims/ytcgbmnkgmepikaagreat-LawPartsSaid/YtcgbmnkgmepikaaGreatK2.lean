/- The statement LawParts is proved: Smooth, Dwells and Bounds of layer 52 return what is specified; no condition. -/
import Derived.Test.YtcgbmnkgmepikaaGreatK1
import Derived.Test.YtcgbmnkgmepikaaGreatK0
namespace Go.Proofs.YtcgbmnkgmepikaaGreat.Sym
open Go Path CInt
set_option linter.unusedVariables false
namespace CRb
theorem one : Contract prg 75 [] (Sym.whole 1).pv := linkworkref02_one.e0 _ (CRa.Of 1 (by unfold InI64; omega))
theorem plain (m : Words) (h : m.length ≤ 274877906944) : Contract prg 72 [wordsPV m] (vB (!m.isEmpty && cn m)) := by
  rw [isEmpty_len]
  by_cases h0 : m.length = 0
  · rw [decide_eq_true h0, Bool.not_true, Bool.false_and]
    exact linkworkref02_plain.e1 m (by omega)
  · rw [decide_eq_false h0, Bool.not_false, Bool.true_and]
    obtain ⟨v, hv⟩ : ∃ v, m[m.length - 1]? = some v := ⟨_, List.getElem?_eq_getElem (by omega)⟩
    have := linkworkref02_plain.e0 m (m.length - 1) v (by omega) (by unfold InI64; omega) (by omega) hv
    have e : cn m = ((v.toNat : Int) != 0) := by
      have h1 := cn_last hv
      by_cases h2 : v.toNat = 0
      · have h3 : ((v.toNat : Int) != 0) = false := by simp [h2]
        rw [h3]
        cases hc : cn m with
        | true => exact absurd h2 (h1.1 hc)
        | false => rfl
      · have h3 : ((v.toNat : Int) != 0) = true := by simp; omega
        rw [h3]; exact h1.2 h2
    rw [e]; exact this
theorem plain' {m : Words} (h : m.length ≤ 274877906944) (h0 : m.length ≠ 0) : Contract prg 72 [wordsPV m] (vB (cn m)) := by
  have := plain m h
  rwa [isEmpty_len, decide_eq_false h0, Bool.not_false, Bool.true_and] at this
theorem plain0 {m : Words} (h0 : m.length = 0) : Contract prg 72 [wordsPV m] (vB false) := by
  have := plain m (by omega)
  rwa [isEmpty_len, decide_eq_true h0, Bool.not_true, Bool.false_and] at this
theorem Valid (a : ARat) (h : FitR a) : Contract prg 28 [a.pv] (vB a.valid) := by
  obtain ⟨l1, l2⟩ := h
  by_cases h1 : a.num.length = 0
  · by_cases h2 : a.den.length = 0
    · rw [valid_e0 h1 h2]; exact linkworkref02_Valid.e0 a h1 h2
    · rw [valid_e1 h1 h2]; exact linkworkref02_Valid.e3 a _ h1 h2 (plain0 h1) rfl
  · have p1 := plain' l1 h1
    by_cases h2 : a.den.length = 0
    · rw [valid_e2 h1 h2]
      cases hc1 : cn a.num with
      | false => exact linkworkref02_Valid.e6 a _ h1 p1 hc1
      | true => exact linkworkref02_Valid.e5 a _ _ h1 p1 hc1 (plain0 h2) rfl
    · have p2 := plain' l2 h2
      rw [valid_e3 h1 h2]
      cases hc1 : cn a.num with
      | false => rw [Bool.false_and]; exact linkworkref02_Valid.e6 a _ h1 p1 hc1
      | true =>
        rw [Bool.true_and]
        cases hc2 : cn a.den with
        | false => rw [Bool.false_and]; exact linkworkref02_Valid.e5 a _ _ h1 p1 hc1 p2 hc2
        | true =>
          have hg := CRa.Gcd ⟨false, a.num⟩ ⟨false, a.den⟩ (show a.num.length ≤ _ by omega) (show a.den.length ≤ _ by omega)
          rw [word_val h1 hc1, word_val h2 hc2, Int.natAbs_natCast, Int.natAbs_natCast] at hg
          have gl := gcd_wl (a := (nat a.num : Int)) (b := (nat a.den : Int)) (k := 274877906944) (by show (words _).length ≤ _; rw [Int.natAbs_natCast, words_nat hc1]; exact l1) (by show (words _).length ≤ _; rw [Int.natAbs_natCast, words_nat hc2]; exact l2)
          rw [Int.natAbs_natCast, Int.natAbs_natCast] at gl
          have hc := CRa.Cmp (Sym.whole (Nat.gcd (nat a.num) (nat a.den) : Nat)) (Sym.whole 1) (show wl _ < _ by omega) (show wl 1 < _ by decide)
          rw [whole_val, whole_val] at hc
          rw [Bool.true_and, ← cmp_one]
          exact linkworkref02_Valid.e4 a _ _ _ _ _ h1 p1 hc1 p2 hc2 hg one hc
theorem Parts (a : ARat) (h : FitR a) : Contract prg 64 [a.pv] (.tup [(Sym.whole a.val.num).pv, (Sym.whole (a.val.den : Int)).pv]) := by
  have hv := Valid a h
  cases hc : a.valid with
  | false => rw [val_inv hc]; exact linkworkref02_Parts.e0 a _ _ hv hc one
  | true =>
    by_cases h0 : a.num.length = 0
    · rw [val_nil (List.eq_nil_of_length_eq_zero h0)]; exact linkworkref02_Parts.e1 a _ _ hv hc h0 one
    · obtain ⟨e1, e2⟩ := parts_of hc h0
      rw [e1, e2]
      exact linkworkref02_Parts.e2 a _ hv hc h0
theorem form (n d : AWhole) (hn : n.mag.length ≤ 1099511627776) (hd : d.mag.length ≤ 1099511627776) (h0 : d.val ≠ 0) : Contract prg 113 [n.pv, d.pv] (mkR (Rat.divInt n.val d.val)).pv := by
  have sn := CRa.Sign n hn
  have sd := CRa.Sign d hd
  have wn := val_natAbs_le n
  have wd' := val_natAbs_le d
  by_cases hz : n.val = 0
  · rw [hz, Rat.zero_divInt]
    exact linkworkref02_form.e0 n d _ sn (by rw [hz]; rfl)
  · have hsn : sgn n.val ≠ 0 := by unfold sgn cmpI; split <;> (try split) <;> omega
    by_cases hneg : d.val < 0
    · have e : Rat.divInt n.val d.val = Rat.divInt (-n.val) (-d.val) := by rw [Rat.divInt_neg', Int.neg_neg]
      have n1 := CRa.Neg n hn
      have d1 := CRa.Neg d hd
      have l1 : (Sym.whole (-n.val)).mag.length ≤ 1099511627776 := by show wl _ ≤ _; rw [wl_neg]; omega
      have l2 : (Sym.whole (-d.val)).mag.length ≤ 1099511627776 := by show wl _ ≤ _; rw [wl_neg]; omega
      have g := CRa.Gcd _ _ l1 l2
      rw [whole_val, whole_val] at g
      have hgl := gcd_wl (a := -n.val) (b := -d.val) (k := 1099511627776) (by rw [wl_neg]; omega) (by rw [wl_neg]; omega)
      rw [e, formed (by omega) (by omega) _ rfl]
      have hg0 : ((Nat.gcd (-n.val).natAbs (-d.val).natAbs : Nat) : Int) ≠ 0 := by
        have := Nat.gcd_pos_of_pos_left (-d.val).natAbs (show 0 < (-n.val).natAbs by omega)
        omega
      generalize hG : ((Nat.gcd (-n.val).natAbs (-d.val).natAbs : Nat) : Int) = G at *
      have dd := CRa.Div (Sym.whole (-d.val)) (Sym.whole G) l2 hgl (by rw [whole_val]; exact hg0)
      have dn := CRa.Div (Sym.whole (-n.val)) (Sym.whole G) l1 hgl (by rw [whole_val]; exact hg0)
      rw [whole_val, whole_val] at dd dn
      exact linkworkref02_form.e1 n d _ _ _ _ _ _ _ _ _ _ _ sn hsn sd (by unfold sgn cmpI; rw [if_pos hneg]; omega) n1 d1 g dn dd
    · have g := CRa.Gcd _ _ hn hd
      have hgl := gcd_wl (a := n.val) (b := d.val) (k := 1099511627776) (by omega) (by omega)
      rw [formed hz (by omega) _ rfl]
      have hg0 : ((Nat.gcd n.val.natAbs d.val.natAbs : Nat) : Int) ≠ 0 := by
        have := Nat.gcd_pos_of_pos_left d.val.natAbs (show 0 < n.val.natAbs by omega)
        omega
      generalize hG : ((Nat.gcd n.val.natAbs d.val.natAbs : Nat) : Int) = G at *
      have dd := CRa.Div d (Sym.whole G) hd hgl (by rw [whole_val]; exact hg0)
      have dn := CRa.Div n (Sym.whole G) hn hgl (by rw [whole_val]; exact hg0)
      rw [whole_val] at dd dn
      have hsd : 0 ≤ sgn d.val := by unfold sgn cmpI; rw [if_neg hneg]; split <;> omega
      exact linkworkref02_form.e2 n d _ _ _ _ _ _ _ _ _ sn hsn sd hsd g dn dd
theorem form' (n d : Int) (hn : wl n ≤ 1099511627776) (hd : wl d ≤ 1099511627776) (h0 : d ≠ 0) : Contract prg 113 [(Sym.whole n).pv, (Sym.whole d).pv] (mkR (Rat.divInt n d)).pv := by
  have := form (Sym.whole n) (Sym.whole d) hn hd (by rw [whole_val]; exact h0)
  rwa [whole_val, whole_val] at this
theorem From (n d : AWhole) (hn : n.mag.length ≤ 1099511627776) (hd : d.mag.length ≤ 1099511627776) (h0 : d.val ≠ 0) : Contract prg 90 [n.pv, d.pv] (.tup [(mkR (Rat.divInt n.val d.val)).pv, (vI 0)]) :=
  linkworkref02_From.e1 n d _ _ (CRa.Sign d hd) (by unfold sgn cmpI; split <;> (try split) <;> omega) (form n d hn hd h0)
theorem Of (n : Int) (h : InI64 n) : Contract prg 58 [vI n] (mkR (n : Rat)).pv := by
  have hw : wl n ≤ 2 := wl_le (by unfold InI64 at h; omega)
  have := form' n 1 (by omega) (by decide) (by omega)
  rw [show Rat.divInt n 1 = (n : Rat) from by rw [Rat.divInt_eq_div]; grind] at this
  exact linkworkref02_Of.e0 n _ _ _ (CRa.Of n h) one this
theorem Neg (a : ARat) (h : FitR a) : Contract prg 112 [a.pv] (mkR (-a.val)).pv := by
  have hp := Parts a h
  have hh := ht_fit h.1 h.2 (by omega)
  have h1 := ht_num a.val
  have h2 := ht_den a.val
  have hn := CRa.Neg (Sym.whole a.val.num) (show wl _ ≤ _ by omega)
  rw [whole_val] at hn
  have hf := form' (-a.val.num) a.val.den (by rw [wl_neg]; omega) (by omega) (by have := a.val.den_nz; omega)
  rw [← Rat.neg_divInt, Rat.num_divInt_den] at hf
  exact linkworkref02_Neg.e0 a _ _ _ _ hp hn hf
theorem Sign (a : ARat) (h : FitR a) : Contract prg 19 [a.pv] (vI (cmpR a.val 0)) := by
  have hp := Parts a h
  have hh := ht_fit h.1 h.2 (by omega)
  have h1 := ht_num a.val
  have hs := CRa.Sign (Sym.whole a.val.num) (show wl _ ≤ _ by omega)
  rw [whole_val, cmpR_zero] at hs
  exact linkworkref02_Sign.e0 a _ _ _ hp hs
theorem Add (a b : ARat) (ha : FitR a) (hb : FitR b) : Contract prg 105 [a.pv, b.pv] (mkR (a.val + b.val)).pv := by
  have pa := Parts a ha
  have pb := Parts b hb
  have la := ht_fit ha.1 ha.2 (by omega)
  have lb := ht_fit hb.1 hb.2 (by omega)
  have h1 := ht_num a.val
  have h2 := ht_den a.val
  have h3 := ht_num b.val
  have h4 := ht_den b.val
  have m1 := CRa.Mul (Sym.whole a.val.num) (Sym.whole (b.val.den : Int)) (show wl _ ≤ _ by omega) (show wl _ ≤ _ by omega)
  have m2 := CRa.Mul (Sym.whole b.val.num) (Sym.whole (a.val.den : Int)) (show wl _ ≤ _ by omega) (show wl _ ≤ _ by omega)
  have m3 := CRa.Mul (Sym.whole (a.val.den : Int)) (Sym.whole (b.val.den : Int)) (show wl _ ≤ _ by omega) (show wl _ ≤ _ by omega)
  rw [whole_val, whole_val] at m1 m2 m3
  have w1 := wl_mul a.val.num b.val.den
  have w2 := wl_mul b.val.num a.val.den
  have w3 := wl_mul (a.val.den : Int) b.val.den
  have s := CRa.Add (Sym.whole (a.val.num * b.val.den)) (Sym.whole (b.val.num * a.val.den)) (show wl _ ≤ _ by omega) (show wl _ ≤ _ by omega)
  rw [whole_val, whole_val] at s
  have w4 := wl_add (a.val.num * b.val.den) (b.val.num * a.val.den)
  have hf := form' (a.val.num * b.val.den + b.val.num * a.val.den) ((a.val.den : Int) * (b.val.den : Int)) (by omega) (by omega) (by
    have := a.val.den_nz
    have := b.val.den_nz
    exact Int.mul_ne_zero (by omega) (by omega))
  rw [← Int.natCast_mul, Rat.divInt_ofNat, ← Rat.add_def', Int.natCast_mul] at hf
  exact linkworkref02_Add.e0 a b _ _ _ _ _ _ _ _ _ pa pb m1 m2 s m3 hf
theorem Sub (a b : ARat) (ha : FitR a) (hb : FitR b) : Contract prg 56 [a.pv, b.pv] (mkR (a.val - b.val)).pv := by
  have hn := Neg b hb
  have lb := ht_fit hb.1 hb.2 (by omega)
  have hs := Add a (mkR (-b.val)) ha (fit_mkR (by rw [ht_neg]; exact lb))
  rw [mkR_val, ← Rat.sub_eq_add_neg] at hs
  exact linkworkref02_Sub.e0 a b _ _ hn hs
theorem Mul (a b : ARat) (ha : FitR a) (hb : FitR b) : Contract prg 57 [a.pv, b.pv] (mkR (a.val * b.val)).pv := by
  have pa := Parts a ha
  have pb := Parts b hb
  have la := ht_fit ha.1 ha.2 (by omega)
  have lb := ht_fit hb.1 hb.2 (by omega)
  have h1 := ht_num a.val
  have h2 := ht_den a.val
  have h3 := ht_num b.val
  have h4 := ht_den b.val
  have m1 := CRa.Mul (Sym.whole a.val.num) (Sym.whole b.val.num) (show wl _ ≤ _ by omega) (show wl _ ≤ _ by omega)
  have m3 := CRa.Mul (Sym.whole (a.val.den : Int)) (Sym.whole (b.val.den : Int)) (show wl _ ≤ _ by omega) (show wl _ ≤ _ by omega)
  rw [whole_val, whole_val] at m1 m3
  have w1 := wl_mul a.val.num b.val.num
  have w3 := wl_mul (a.val.den : Int) b.val.den
  have hf := form' (a.val.num * b.val.num) ((a.val.den : Int) * (b.val.den : Int)) (by omega) (by omega) (by
    have := a.val.den_nz
    have := b.val.den_nz
    exact Int.mul_ne_zero (by omega) (by omega))
  rw [← Int.natCast_mul, Rat.divInt_ofNat, ← Rat.mul_def', Int.natCast_mul] at hf
  exact linkworkref02_Mul.e0 a b _ _ _ _ _ _ _ pa pb m1 m3 hf
theorem Cmp (a b : ARat) (ha : a.num.length ≤ 68719476736 ∧ a.den.length ≤ 68719476736) (hb : b.num.length ≤ 68719476736 ∧ b.den.length ≤ 68719476736) : Contract prg 68 [a.pv, b.pv] (vI (cmpR a.val b.val)) := by
  have la := ht_fit ha.1 ha.2 (by omega)
  have lb := ht_fit hb.1 hb.2 (by omega)
  have hs := Sub a b ⟨by omega, by omega⟩ ⟨by omega, by omega⟩
  have hl := ht_sub a.val b.val
  have hg := Sign (mkR (a.val - b.val)) (fit_mkR (by omega))
  rw [mkR_val, ← cmpR_zero, cmpR_sub] at hg
  exact linkworkref02_Cmp.e0 a b _ _ hs hg
theorem copyR (a : ARat) (h : FitR a) : Contract prg 105 [a.pv, (⟨false, [], []⟩ : ARat).pv] (mkR a.val).pv := by
  have hf := Add a ⟨false, [], []⟩ h ⟨by simp, by simp⟩
  rwa [val_nil (a := ⟨false, [], []⟩) rfl, Rat.add_zero] at hf
theorem Min (a b : ARat) (ha : a.num.length ≤ 68719476736 ∧ a.den.length ≤ 68719476736) (hb : b.num.length ≤ 68719476736 ∧ b.den.length ≤ 68719476736) : Contract prg 168 [a.pv, b.pv] (mkR (minR a.val b.val)).pv := by
  unfold minR
  split
  · rename_i h; exact linkworkref02_Min.e0 a b _ _ (Cmp a b ha hb) h (copyR a ⟨by omega, by omega⟩)
  · rename_i h; exact linkworkref02_Min.e1 a b _ _ (Cmp a b ha hb) (by omega) (copyR b ⟨by omega, by omega⟩)
theorem Max (a b : ARat) (ha : a.num.length ≤ 68719476736 ∧ a.den.length ≤ 68719476736) (hb : b.num.length ≤ 68719476736 ∧ b.den.length ≤ 68719476736) : Contract prg 169 [a.pv, b.pv] (mkR (maxR a.val b.val)).pv := by
  unfold maxR
  split
  · rename_i h; exact linkworkref02_Max.e0 a b _ _ (Cmp a b ha hb) h (copyR a ⟨by omega, by omega⟩)
  · rename_i h; exact linkworkref02_Max.e1 a b _ _ (Cmp a b ha hb) (by omega) (copyR b ⟨by omega, by omega⟩)
theorem Make (n d : Int) (hn : InI64 n) (hd : InI64 d) (h0 : d ≠ 0) : Contract prg 107 [vI n, vI d] (.tup [(mkR (Rat.divInt n d)).pv, vI 0]) := by
  have hw : wl n ≤ 2 := wl_le (by unfold InI64 at hn; omega)
  have hw2 : wl d ≤ 2 := wl_le (by unfold InI64 at hd; omega)
  have hf := From (Sym.whole n) (Sym.whole d) (show wl _ ≤ _ by omega) (show wl _ ≤ _ by omega) (by rw [whole_val]; exact h0)
  rw [whole_val, whole_val] at hf
  exact linkworkref02_Make.e0 n d _ _ _ _ (CRa.Of n hn) (CRa.Of d hd) hf
end CRb
end Go.Proofs.YtcgbmnkgmepikaaGreat.Sym
namespace Go.Proofs.YtcgbmnkgmepikaaGreat.Sym
open Go Path CInt
set_option linter.unusedVariables false
def vals (p : List ARat) : List Rat := p.map ARat.val
abbrev FitP (k : Nat) (p : List ARat) : Prop := ∀ a ∈ p, a.num.length ≤ k ∧ a.den.length ≤ k
abbrev Fl (k : Nat) (q : List Rat) : Prop := ∀ x ∈ q, ht x ≤ k
def trimL : List Rat → List Rat
  | [] => []
  | a :: r => bif (trimL r).isEmpty && decide (a = 0) then [] else a :: trimL r
theorem trimL_zero : ∀ q : List Rat, trimL (q ++ [0]) = trimL q
  | [] => rfl
  | a :: r => by
    show (bif (trimL (r ++ [0])).isEmpty && decide (a = 0) then [] else a :: trimL (r ++ [0])) = _
    rw [trimL_zero r]; rfl
theorem trimL_ne {v : Rat} (h : v ≠ 0) : ∀ {q : List Rat}, trimL (q ++ [v]) = q ++ [v]
  | [] => by
    show (bif (trimL []).isEmpty && decide (v = 0) then [] else v :: trimL []) = [v]
    rw [decide_eq_false h, Bool.and_false]; rfl
  | a :: r => by
    show (bif (trimL (r ++ [v])).isEmpty && decide (a = 0) then [] else a :: trimL (r ++ [v])) = _
    rw [trimL_ne h]
    cases r <;> rfl
theorem snoc_of {α : Type} {q : List α} {n : Nat} {v : α} (h : q[n]? = some v) (hl : q.length = n + 1) : q = q.take n ++ [v] := by
  have := List.take_add_one (l := q) (i := n)
  rw [h, List.take_of_length_le (by omega)] at this
  exact this
theorem fl_vals {k : Nat} {p : List ARat} (h : FitP k p) (hk : 1 ≤ k) : Fl k (vals p) := by
  intro x hx
  unfold vals at hx
  obtain ⟨a, ha, rfl⟩ := List.mem_map.1 hx
  exact ht_fit (h a ha).1 (h a ha).2 hk
theorem fit_map {q : List Rat} (h : Fl 274877906944 q) : FitP 274877906944 (q.map mkR) := by
  intro a ha
  obtain ⟨x, hx, rfl⟩ := List.mem_map.1 ha
  exact fit_mkR (h x hx)
theorem fit_mkRk {q : Rat} {k : Nat} (h : ht q ≤ k) : (mkR q).num.length ≤ k ∧ (mkR q).den.length ≤ k := by
  by_cases h0 : q = 0
  · subst h0; constructor <;> simp [mkR_zero]
  · rw [mkR_ne h0]
    exact ⟨Nat.le_trans (ht_num q) h, Nat.le_trans (ht_den q) h⟩
theorem fit_mapk {q : List Rat} {k : Nat} (h : Fl k q) : FitP k (q.map mkR) := by
  intro a ha
  obtain ⟨x, hx, rfl⟩ := List.mem_map.1 ha
  exact fit_mkRk (h x hx)
theorem vals_mkR (q : List Rat) : vals (q.map mkR) = q := by
  unfold vals
  rw [List.map_map]
  conv => rhs; rw [← List.map_id q]
  exact List.map_congr_left (fun x _ => mkR_val x)
theorem vals_of {p : List ARat} (h : p.all ARat.valid = true) : (vals p).map mkR = p := by
  unfold vals
  rw [List.map_map]
  conv => rhs; rw [← List.map_id p]
  exact List.map_congr_left (fun x hx => mkR_of (List.all_eq_true.1 h x hx))
theorem vals_drop {p : List ARat} {n : Nat} {v : ARat} (h : p[n]? = some v) : (vals p).drop n = v.val :: (vals p).drop (n + 1) := by
  obtain ⟨h1, h2⟩ := List.getElem?_eq_some_iff.1 h
  unfold vals
  rw [List.drop_eq_getElem_cons (by simpa using h1), List.getElem_map, h2]
def lastZ (q : List Rat) : Bool := match q.getLast? with
  | none => false
  | some v => decide (v = 0)
theorem lastZ_true {p : List ARat} (h : lastZ (vals p) = true) : ∃ v, 0 < p.length ∧ p[p.length - 1]? = some v ∧ v.val = 0 := by
  unfold lastZ vals at h
  rw [List.getLast?_map, List.getLast?_eq_getElem?] at h
  cases hv : p[p.length - 1]? with
  | none => rw [hv] at h; cases h
  | some v =>
    rw [hv] at h
    have h : decide (v.val = 0) = true := h
    exact ⟨v, by have := (List.getElem?_eq_some_iff.1 hv).1; omega, rfl, of_decide_eq_true h⟩
theorem lastZ_false {p : List ARat} (h : lastZ (vals p) = false) (h0 : p.length ≠ 0) : ∃ v, p[p.length - 1]? = some v ∧ v.val ≠ 0 := by
  unfold lastZ vals at h
  rw [List.getLast?_map, List.getLast?_eq_getElem?] at h
  obtain ⟨v, hv⟩ : ∃ v, p[p.length - 1]? = some v := ⟨_, List.getElem?_eq_getElem (by omega)⟩
  rw [hv] at h
  have h : decide (v.val = 0) = false := h
  exact ⟨v, hv, of_decide_eq_false h⟩
def chk (p : List ARat) : Int := if 65 < p.length then 4 else bif p.all ARat.valid then (bif lastZ (vals p) then 8 else 0) else 2
def errOf (n : Int) : Option Int := if n = 0 then none else some n
theorem errOf_ne {n : Int} (h : n ≠ 0) : errOf n = some n := if_neg h
theorem chk_len {p : List ARat} (h : chk p = 0) : p.length ≤ 65 := by
  unfold chk at h
  split at h
  · cases h
  · omega
theorem chk_valid {p : List ARat} (h : chk p = 0) : p.all ARat.valid = true := by
  unfold chk at h
  split at h
  · cases h
  · cases hv : p.all ARat.valid with
    | true => rfl
    | false => rw [hv] at h; cases h
theorem chk_last {p : List ARat} (h : chk p = 0) : lastZ (vals p) = false := by
  unfold chk at h
  split at h
  · cases h
  · cases hv : p.all ARat.valid with
    | false => rw [hv] at h; cases h
    | true =>
      rw [hv] at h
      cases hz : lastZ (vals p) with
      | false => rfl
      | true => rw [hz] at h; cases h
def evalL : List Rat → Rat → Rat
  | [], _ => 0
  | a :: r, x => evalL r x * x + a
theorem ht_eval (q : List Rat) (x : Rat) (k : Nat) (h : Fl k q) (hx : ht x ≤ k) : ht (evalL q x) ≤ q.length * (2 * k + 1) + 1 := by
  induction q with
  | nil =>
    have : ht (evalL [] x) = 1 := ht_zero
    omega
  | cons a r ih =>
    have h1 := ih (fun y hy => h y (List.mem_cons_of_mem _ hy))
    have h2 := h a (List.mem_cons_self ..)
    have h3 := ht_mul (evalL r x) x
    have h4 := ht_add (evalL r x * x) a
    show ht (evalL r x * x + a) ≤ _
    rw [List.length_cons, Nat.add_mul]
    omega
def derI : Nat → List Rat → List Rat
  | _, [] => []
  | i, a :: r => ((i : Int) : Rat) * a :: derI (i + 1) r
def deriveL (q : List Rat) : List Rat := trimL (derI 1 (q.drop 1))
theorem derI_len : ∀ (q : List Rat) (i : Nat), (derI i q).length = q.length
  | [], _ => rfl
  | a :: r, i => by rw [derI, List.length_cons, List.length_cons, derI_len r]
theorem derI_snoc : ∀ (q : List Rat) (i : Nat) (a : Rat), derI i (q ++ [a]) = derI i q ++ [(((i + q.length : Nat) : Int) : Rat) * a]
  | [], i, a => rfl
  | b :: r, i, a => by
    rw [List.cons_append, derI, derI, derI_snoc r (i + 1) a, List.length_cons, List.cons_append, show i + 1 + r.length = i + (r.length + 1) from by omega]
theorem derI_take {p : List ARat} {i : Nat} {v : ARat} (hv : p[i]? = some v) (h : 1 ≤ i) : derI 1 (((vals p).take (i + 1)).drop 1) = derI 1 (((vals p).take i).drop 1) ++ [((i : Int) : Rat) * v.val] := by
  have h1 := (List.getElem?_eq_some_iff.1 hv).1
  have hm : (vals p)[i]? = some v.val := by unfold vals; rw [List.getElem?_map, hv]; rfl
  have hl : ((vals p).take i).length = i := by unfold vals; simp; omega
  rw [List.take_add_one, hm, List.drop_append_of_le_length (by omega)]
  show derI 1 (((vals p).take i).drop 1 ++ [v.val]) = _
  rw [derI_snoc, List.length_drop, hl, show 1 + (i - 1) = i from by omega]
theorem fl_derI {k : Nat} (hk : k + 2 ≤ 274877906944) : ∀ (q : List Rat) (i : Nat), i + q.length ≤ 18446744073709551615 → Fl k q → Fl 274877906944 (derI i q)
  | [], _, _, _ => fun x hx => by cases hx
  | a :: r, i, hi, h => by
    intro x hx
    rw [List.length_cons] at hi
    rcases List.mem_cons.1 hx with e | hx
    · rw [e]
      have h1 := ht_mul ((i : Int) : Rat) a
      have h2 := h a (List.mem_cons_self ..)
      have h3 : ht ((i : Int) : Rat) ≤ 2 := by
        rw [ht_int]
        have : wl (i : Int) ≤ 2 := wl_le (by omega)
        omega
      omega
    · exact fl_derI hk r (i + 1) (by omega) (fun y hy => h y (List.mem_cons_of_mem _ hy)) x hx
end Go.Proofs.YtcgbmnkgmepikaaGreat.Sym
namespace Go.Proofs.YtcgbmnkgmepikaaGreat.Sym.Path
open Go
set_option maxRecDepth 20000
set_option linter.unusedVariables false
namespace poly_Eval
@[reducible] noncomputable def fn : Func := Tryz.f16
noncomputable def atK1 : List Itm := focus [0, 2, 0, 0, 2, 0, 2, 1, 2, 0, 2, 0, 0, 2, 0, 0] [.code (bodyOf fn)]
def inv1 (p : List ARat) (i_8 : Int) (x site_7 : ARat) : St := ⟨[(0, (.pv (polyPV p))), (3, (.ptr 3 0)), (4, (.ptr 4 0)), (7, (.ptr 7 0)), (8, (eI i_8))], [(3, (.lit [(eB x.neg), (.pv (wordsPV x.num)), (.pv (wordsPV x.den))])), (4, (.lit [(eB false), (.pv (.list [])), (.pv (.list []))])), (7, (.lit [(eB site_7.neg), (.pv (wordsPV site_7.num)), (.pv (wordsPV site_7.den))]))]⟩
@[reducible] noncomputable def Loop1 (p : List ARat) (i_8 : Int) (x site_7 : ARat) (r : PV) : Prop := L prg fn atK1 (inv1 p i_8 x site_7) r
theorem e0 (p : List ARat) (x : ARat) {r : PV} (h1 : Contract prg 61 [(polyPV p)] .nilI) (h2 : InI64 ((p.length : Int) - 1)) (hL : Loop1 p ((p.length : Int) - 1) x (⟨false, [], []⟩ : ARat) r) : Contract prg 16 [(polyPV p), x.pv] r :=
  Contract.ofL Tryz.func16 (by kernel_rfl) (L.go mixed tabOk (n := 108) (ns := [1, 1, 1]) (tr := [.reg [], .reg [.none, (.pv .nilI)], .reg [], .auto, .reg [], .reg [.none, (iI (p.length : Int)), (iI ((p.length : Int) - 1))], .keep [0, 3, 4, 7, 8], .ord [3, 4, 7]]) (cj h1 (cj (o_len ARat.cells p) (cj (bs_sub h2) True.intro))) (by kernel_rfl) hL)
theorem l10 (p : List ARat) (i_8 : Int) (x site_7 mul : ARat) (k : Nat) (v add : ARat) {r : PV} (h1 : 0 ≤ i_8) (h2 : Contract prg 54 [site_7.pv, x.pv] mul.pv) (h3 : i_8 = (k : Int)) (h4 : p[k]? = some v) (h5 : Contract prg 32 [mul.pv, v.pv] add.pv) (h6 : InI64 (i_8 - 1)) (hL : Loop1 p (i_8 - 1) x add r) : Loop1 p i_8 x site_7 r :=
  L.go mixed tabOk (n := 141) (ns := [1, 1, 3, 1, 1]) (tr := [.auto, .reg [], .dec true, dr 8 1 [.none, .none, (.pv mul.pv), .none, .none, (.row k (ARat.cells v)), .none, (.pv add.pv)], .reg [.none, (iI (i_8 - 1))], .keep [0, 3, 4, 7, 8]]) (cj (dle_t h1) (cj h2 (cj (o_at ARat.cells h3 h4) (cj h5 (cj (bs_sub h6) True.intro))))) (by kernel_rfl) hL
theorem l11 (p : List ARat) (i_8 : Int) (x site_7 : ARat) (h1 : i_8 < 0) : Loop1 p i_8 x site_7 (.tup [site_7.pv, .nilI]) :=
  L.done mixed tabOk (n := 141) (ns := [1]) (tr := [.auto, .reg [], .dec false, .reg []]) (cj (dle_f h1) True.intro) (by kernel_rfl)
end poly_Eval
namespace poly_Derive
theorem e0 (p der : List ARat) (h1 : Contract prg 61 [(polyPV p)] .nilI) (h2 : Contract prg 63 [(polyPV p)] (polyPV der)) : Contract prg 18 [(polyPV p)] (.tup [(polyPV der), .nilI]) :=
  Contract.ofL Tryz.func18 (by kernel_rfl) (L.done mixed tabOk (n := 93) (ns := [1, 1]) (tr := [.reg [], .reg [.none, (.pv .nilI)], .reg [], .auto, .reg [.none, (.pv (polyPV der))]]) (cj h1 (cj h2 True.intro)) (by kernel_rfl))
end poly_Derive
namespace poly_Trim
@[reducible] noncomputable def fn : Func := Tryz.f55
noncomputable def atK1 : List Itm := focus [0, 2, 0, 2, 0, 0, 2, 0, 0] [.code (bodyOf fn)]
def inv1 (site_17 l : List ARat) (t_8 : Nat) : St := ⟨[(3, (.row 17 0 site_17.length 3)), (6, (.pv (polyPV l))), (7, (eI (l.length : Int))), (8, (eI (t_8 : Int)))], [(17, (.pure ((site_17 : List ARat).map ARat.cells).flatten))]⟩
@[reducible] noncomputable def Loop1 (site_17 l : List ARat) (t_8 : Nat) (r : PV) : Prop := L prg fn atK1 (inv1 site_17 l t_8) r
noncomputable def atK2 : List Itm := focus [0, 2, 0, 2, 0, 0, 2, 0, 0, 0, 0, 2, 0, 1, 2, 2, 2, 2, 0, 0, 0] [.code (bodyOf fn)]
def inv2 (site_17 : List ARat) : St := ⟨[(3, (.row 17 0 site_17.length 3))], [(17, (.pure ((site_17 : List ARat).map ARat.cells).flatten))]⟩
@[reducible] noncomputable def Loop2 (site_17 : List ARat) (r : PV) : Prop := L prg fn atK2 (inv2 site_17) r
theorem e0 (l : List ARat) {r : PV}  (hL : Loop1 [] l 0 r) : Contract prg 55 [(polyPV l)] r :=
  Contract.ofL Tryz.func55 (by kernel_rfl) (L.go mixed tabOk (n := 87) (ns := [1]) (tr := [.reg [], .reg [.nil], .adopt 3 17 3, .reg [.none, (iI (l.length : Int))], .keep [3, 6, 7, 8]]) (cj (o_len ARat.cells l) True.intro) (by kernel_rfl) hL)
theorem l10 (site_17 l : List ARat) (t_8 : Nat) (v add : ARat) {r : PV} (h1 : t_8 < l.length) (h2 : l[t_8]? = some v) (h3 : Contract prg 32 [v.pv, (⟨false, [], []⟩ : ARat).pv] add.pv) (h4 : ((site_17 ++ [add]) : List ARat).length * 56 ≤ 140737488355328) (h5 : (t_8 + 1) < 9223372036854775808) (hL : Loop1 (site_17 ++ [add]) l (t_8 + 1) r) : Loop1 site_17 l t_8 r :=
  L.go mixed tabOk (n := 126) (ns := [1, 3, 1, 6, 1]) (tr := [.auto, .reg [], .dec true, .reg [(.row t_8 (ARat.cells v))], .reg [.none, .none, .none, (.pv add.pv), .none, (.app ((site_17 ++ [add]) : List ARat).length (((site_17 ++ [add]) : List ARat).map ARat.cells).flatten)], .reg [(iI (((t_8 + 1) : Nat) : Int))], .keep [3, 6, 7, 8], .drop [16, 5]]) (cj (dltN_t h1) (cj (o_at ARat.cells (Eq.refl (((t_8 : Nat) : Int) : Int)) h2) (cj h3 (cj (o_appR sz_ARat (site_17 : List ARat) ([add] : List ARat) 56 (Eq.refl (site_17 : List ARat).length) (Eq.refl ([add] : List ARat).length) h4 rfl) (cj (bs_addN h5) True.intro))))) (by kernel_rfl) hL
theorem l11 (site_17 l : List ARat) (t_8 : Nat) {r : PV} (h1 : l.length ≤ t_8) (hL : Loop2 site_17 r) : Loop1 site_17 l t_8 r :=
  L.go mixed tabOk (n := 123) (ns := [1]) (tr := [.auto, .reg [], .dec false, .keep [3]]) (cj (dltN_f h1) True.intro) (by kernel_rfl) hL
theorem l20 (site_17 : List ARat) (k : Nat) (v : ARat) (sig : Int) (u : Nat) {r : PV} (h1 : 0 < site_17.length) (h2 : InI64 ((site_17.length : Int) - 1)) (h3 : ((site_17.length : Int) - 1) = (k : Int)) (h4 : k < site_17.length) (h5 : site_17[k]? = some v) (h6 : Contract prg 39 [v.pv] (vI sig)) (h7 : sig = 0) (h8 : ((site_17.length : Int) - 1) = (u : Int)) (h9 : u ≤ (site_17 : List ARat).length) (hL : Loop2 (site_17.take u) r) : Loop2 site_17 r :=
  L.go mixed tabOk (n := 150) (ns := [1, 1, 1, 1, 1, 1, 2, 1, 2, 1, 1, 1, 1, 1, 1, 5, 1]) (tr := [.auto, .reg [.none, .none, .none, .none, .none, .none, .none, (iI ((site_17.length : Int) - 1)), (.nat k), (.seg [(vB v.neg), (wordsPV v.num), (wordsPV v.den)]), (.pv (vI sig)), .none, (.dec true)], .dec true, .reg [.none, .none, .none, (iI ((site_17.length : Int) - 1)), (.slc 0 ((site_17.take u).length) [])], .cut 17 (u * 3) (((site_17.take u) : List ARat).map ARat.cells).flatten, .keep [3]]) (cj (dltN_t h1) (cj (dltN_t h1) (cj (dltN_t h1) (cj (dltN_t h1) (cj (bs_sub h2) (cj (dltN_t h1) (cj (cj h3 h4) (cj (dltN_t h1) (cj (o_seg sz_ARat h5) (cj (dltN_t h1) (cj h6 (cj (dltN_t h1) (cj (dltN_t h1) (cj (deq_t h7) (cj (bs_sub h2) (cj (o_sr0 (site_17 : List ARat) h8 h9) (cj (o_cut sz_ARat (site_17 : List ARat) u) True.intro))))))))))))))))) (by kernel_rfl) hL
theorem l21 (site_17 : List ARat) (k : Nat) (v : ARat) (sig : Int) (h1 : 0 < site_17.length) (h2 : InI64 ((site_17.length : Int) - 1)) (h3 : ((site_17.length : Int) - 1) = (k : Int)) (h4 : k < site_17.length) (h5 : site_17[k]? = some v) (h6 : Contract prg 39 [v.pv] (vI sig)) (h7 : sig ≠ 0) : Loop2 site_17 (polyPV site_17) :=
  L.done mixed tabOk (n := 156) (ns := [1, 1, 1, 1, 1, 1, 2, 1, 2, 1, 1, 1, 1, 1, 3]) (tr := [.auto, .reg [.none, .none, .none, .none, .none, .none, .none, (iI ((site_17.length : Int) - 1)), (.nat k), (.seg [(vB v.neg), (wordsPV v.num), (wordsPV v.den)]), (.pv (vI sig)), .none, (.dec true)], .dec false, .reg [], .frzT 2 ((site_17 : List ARat).map ARat.cells)]) (cj (dltN_t h1) (cj (dltN_t h1) (cj (dltN_t h1) (cj (dltN_t h1) (cj (bs_sub h2) (cj (dltN_t h1) (cj (cj h3 h4) (cj (dltN_t h1) (cj (o_seg sz_ARat h5) (cj (dltN_t h1) (cj h6 (cj (dltN_t h1) (cj (dltN_t h1) (cj (deq_f h7) (cj (o_frz sz_ARat (site_17 : List ARat) (Eq.refl (site_17 : List ARat).length)) True.intro))))))))))))))) (by kernel_rfl)
theorem l22 (site_17 : List ARat) (h1 : site_17.length ≤ 0) : Loop2 site_17 (polyPV site_17) :=
  L.done mixed tabOk (n := 156) (ns := [1, 1, 1, 1, 1, 1, 1, 1, 1, 3]) (tr := [.auto, .reg [.none, .none, .none, .none, .skip, .skip, .skip, .skip, .skip, .skip, .skip, .skip, (.dec false)], .auto, .reg [], .frzT 2 ((site_17 : List ARat).map ARat.cells)]) (cj (dltN_f h1) (cj (dltN_f h1) (cj (dltN_f h1) (cj (dltN_f h1) (cj (dltN_f h1) (cj (dltN_f h1) (cj (dltN_f h1) (cj (dltN_f h1) (cj (dltN_f h1) (cj (o_frz sz_ARat (site_17 : List ARat) (Eq.refl (site_17 : List ARat).length)) True.intro)))))))))) (by kernel_rfl)
end poly_Trim
namespace poly_Check
@[reducible] noncomputable def fn : Func := Tryz.f61
noncomputable def atK1 : List Itm := focus [0, 2, 0, 0, 2, 1, 2, 0, 0, 2, 0, 0] [.code (bodyOf fn)]
def inv1 (p : List ARat) (t_11 : Nat) : St := ⟨[(0, (.pv (polyPV p))), (9, (.pv (polyPV p))), (10, (eI (p.length : Int))), (11, (eI (t_11 : Int)))], []⟩
@[reducible] noncomputable def Loop1 (p : List ARat) (t_11 : Nat) (r : PV) : Prop := L prg fn atK1 (inv1 p t_11) r
theorem e0 (p : List ARat) (h1 : 65 < p.length) : Contract prg 61 [(polyPV p)] (.iface 57 (vI 4)) :=
  Contract.ofL Tryz.func61 (by kernel_rfl) (L.done mixed tabOk (n := 84) (ns := [1, 1]) (tr := [.reg [], .reg [.none, (iI (p.length : Int))], .dec true, .reg []]) (cj (o_len ARat.cells p) (cj (dltN_t h1) True.intro)) (by kernel_rfl))
theorem e1 (p : List ARat) {r : PV} (h1 : p.length ≤ 65) (hL : Loop1 p 0 r) : Contract prg 61 [(polyPV p)] r :=
  Contract.ofL Tryz.func61 (by kernel_rfl) (L.go mixed tabOk (n := 96) (ns := [1, 1, 1]) (tr := [.reg [], .reg [.none, (iI (p.length : Int))], .dec false, .reg [.none, (iI (p.length : Int))], .keep [0, 9, 10, 11]]) (cj (o_len ARat.cells p) (cj (dltN_f h1) (cj (o_len ARat.cells p) True.intro))) (by kernel_rfl) hL)
theorem l10 (p : List ARat) (t_11 : Nat) (v : ARat) (val : Bool) (h1 : t_11 < p.length) (h2 : p[t_11]? = some v) (h3 : Contract prg 50 [v.pv] (vB val)) (h4 : val = false) : Loop1 p t_11 (.iface 57 (vI 2)) :=
  L.done mixed tabOk (n := 141) (ns := [1, 3, 1, 1]) (tr := [.auto, .reg [], .dec true, .reg [(.row t_11 (ARat.cells v))], .reg [.none, (.pv (vB val))], .dec true, .reg []]) (cj (dltN_t h1) (cj (o_at ARat.cells (Eq.refl (((t_11 : Nat) : Int) : Int)) h2) (cj h3 (cj (bnot_t h4) True.intro)))) (by kernel_rfl)
theorem l11 (p : List ARat) (t_11 : Nat) (v : ARat) (val : Bool) {r : PV} (h1 : t_11 < p.length) (h2 : p[t_11]? = some v) (h3 : Contract prg 50 [v.pv] (vB val)) (h4 : val = true) (h5 : (t_11 + 1) < 9223372036854775808) (hL : Loop1 p (t_11 + 1) r) : Loop1 p t_11 r :=
  L.go mixed tabOk (n := 144) (ns := [1, 3, 1, 1, 1]) (tr := [.auto, .reg [], .dec true, .reg [(.row t_11 (ARat.cells v))], .reg [.none, (.pv (vB val))], .dec false, .reg [(iI (((t_11 + 1) : Nat) : Int))], .keep [0, 9, 10, 11], .drop [4]]) (cj (dltN_t h1) (cj (o_at ARat.cells (Eq.refl (((t_11 : Nat) : Int) : Int)) h2) (cj h3 (cj (bnot_f h4) (cj (bs_addN h5) True.intro))))) (by kernel_rfl) hL
theorem l12 (p : List ARat) (t_11 k : Nat) (v : ARat) (sig : Int) (h1 : p.length ≤ t_11) (h2 : 0 < p.length) (h3 : InI64 ((p.length : Int) - 1)) (h4 : ((p.length : Int) - 1) = (k : Int)) (h5 : p[k]? = some v) (h6 : Contract prg 39 [v.pv] (vI sig)) (h7 : sig = 0) : Loop1 p t_11 (.iface 57 (vI 8)) :=
  L.done mixed tabOk (n := 141) (ns := [1, 1, 1, 1, 1, 1, 1, 1, 1, 3, 1, 1, 1, 1, 1, 1]) (tr := [.auto, .reg [], .dec false, .reg [.none, (iI (p.length : Int)), .none, .none, .none, .none, (iI (p.length : Int)), (iI ((p.length : Int) - 1)), (.row k (ARat.cells v)), .none, (.pv (vI sig)), .none, (.dec true)], .dec true, .reg []]) (cj (dltN_f h1) (cj (o_len ARat.cells p) (cj (dltN_t h2) (cj (dltN_t h2) (cj (dltN_t h2) (cj (o_len ARat.cells p) (cj (dltN_t h2) (cj (bs_sub h3) (cj (dltN_t h2) (cj (o_at ARat.cells h4 h5) (cj (dltN_t h2) (cj (dltN_t h2) (cj h6 (cj (dltN_t h2) (cj (dltN_t h2) (cj (deq_t h7) True.intro)))))))))))))))) (by kernel_rfl)
theorem l13 (p : List ARat) (t_11 k : Nat) (v : ARat) (sig : Int) (h1 : p.length ≤ t_11) (h2 : 0 < p.length) (h3 : InI64 ((p.length : Int) - 1)) (h4 : ((p.length : Int) - 1) = (k : Int)) (h5 : p[k]? = some v) (h6 : Contract prg 39 [v.pv] (vI sig)) (h7 : sig ≠ 0) : Loop1 p t_11 .nilI :=
  L.done mixed tabOk (n := 144) (ns := [1, 1, 1, 1, 1, 1, 1, 1, 1, 3, 1, 1, 1, 1, 1, 1]) (tr := [.auto, .reg [], .dec false, .reg [.none, (iI (p.length : Int)), .none, .none, .none, .none, (iI (p.length : Int)), (iI ((p.length : Int) - 1)), (.row k (ARat.cells v)), .none, (.pv (vI sig)), .none, (.dec true)], .dec false, .reg []]) (cj (dltN_f h1) (cj (o_len ARat.cells p) (cj (dltN_t h2) (cj (dltN_t h2) (cj (dltN_t h2) (cj (o_len ARat.cells p) (cj (dltN_t h2) (cj (bs_sub h3) (cj (dltN_t h2) (cj (o_at ARat.cells h4 h5) (cj (dltN_t h2) (cj (dltN_t h2) (cj h6 (cj (dltN_t h2) (cj (dltN_t h2) (cj (deq_f h7) True.intro)))))))))))))))) (by kernel_rfl)
theorem l14 (p : List ARat) (t_11 : Nat) (h1 : p.length ≤ t_11) (h2 : p.length ≤ 0) : Loop1 p t_11 .nilI :=
  L.done mixed tabOk (n := 144) (ns := [1, 1, 1, 1, 1, 1, 1, 1, 1, 1, 1]) (tr := [.auto, .reg [], .dec false, .reg [.none, (iI (p.length : Int)), .none, .none, .skip, .skip, .skip, .skip, .skip, .skip, .skip, .skip, (.dec false)], .auto, .reg []]) (cj (dltN_f h1) (cj (o_len ARat.cells p) (cj (dltN_f h2) (cj (dltN_f h2) (cj (dltN_f h2) (cj (dltN_f h2) (cj (dltN_f h2) (cj (dltN_f h2) (cj (dltN_f h2) (cj (dltN_f h2) (cj (dltN_f h2) True.intro))))))))))) (by kernel_rfl)
end poly_Check
namespace poly_derive
@[reducible] noncomputable def fn : Func := Tryz.f63
noncomputable def atK1 : List Itm := focus [0, 2, 0, 2, 0, 0, 2, 0, 0] [.code (bodyOf fn)]
def inv1 (p site_20 : List ARat) (i_4 : Nat) : St := ⟨[(0, (.pv (polyPV p))), (3, (.row 20 0 site_20.length 3)), (4, (eI (i_4 : Int)))], [(20, (.pure ((site_20 : List ARat).map ARat.cells).flatten))]⟩
@[reducible] noncomputable def Loop1 (p site_20 : List ARat) (i_4 : Nat) (r : PV) : Prop := L prg fn atK1 (inv1 p site_20 i_4) r
theorem e0 (p : List ARat) {r : PV}  (hL : Loop1 p [] 1 r) : Contract prg 63 [(polyPV p)] r :=
  Contract.ofL Tryz.func63 (by kernel_rfl) (L.go mixed tabOk (n := 87) (ns := []) (tr := [.reg [], .reg [.nil], .adopt 3 20 3, .reg [], .keep [0, 3, 4]]) True.intro (by kernel_rfl) hL)
theorem l10 (p site_20 : List ARat) (i_4 : Nat) (of v mul : ARat) {r : PV} (h1 : i_4 < p.length) (h2 : Contract prg 33 [(vI (i_4 : Int))] of.pv) (h3 : p[i_4]? = some v) (h4 : Contract prg 54 [of.pv, v.pv] mul.pv) (h5 : ((site_20 ++ [mul]) : List ARat).length * 56 ≤ 140737488355328) (h6 : (i_4 + 1) < 9223372036854775808) (hL : Loop1 p (site_20 ++ [mul]) (i_4 + 1) r) : Loop1 p site_20 i_4 r :=
  L.go mixed tabOk (n := 120) (ns := [1, 1, 1, 3, 1, 6, 1]) (tr := [.auto, .reg [.none, .none, (iI (p.length : Int))], .dec true, dr 9 2 [.none, .none, (.pv of.pv), .none, .none, (.row i_4 (ARat.cells v)), .none, (.pv mul.pv), .none, (.app ((site_20 ++ [mul]) : List ARat).length (((site_20 ++ [mul]) : List ARat).map ARat.cells).flatten)], .reg [.none, (iI (((i_4 + 1) : Nat) : Int))], .keep [0, 3, 4], .drop [19]]) (cj (o_len ARat.cells p) (cj (dltN_t h1) (cj h2 (cj (o_at ARat.cells (Eq.refl (((i_4 : Nat) : Int) : Int)) h3) (cj h4 (cj (o_appR sz_ARat (site_20 : List ARat) ([mul] : List ARat) 56 (Eq.refl (site_20 : List ARat).length) (Eq.refl ([mul] : List ARat).length) h5 rfl) (cj (bs_addN h6) True.intro))))))) (by kernel_rfl) hL
theorem l11 (p site_20 : List ARat) (i_4 : Nat) (tri : List ARat) (h1 : p.length ≤ i_4) (h2 : Contract prg 55 [(polyPV site_20)] (polyPV tri)) : Loop1 p site_20 i_4 (polyPV tri) :=
  L.done mixed tabOk (n := 120) (ns := [1, 1, 3, 1]) (tr := [.auto, .reg [.none, .none, (iI (p.length : Int))], .dec false, .frzT 3 ((site_20 : List ARat).map ARat.cells), .reg [.none, (.pv (polyPV tri))]]) (cj (o_len ARat.cells p) (cj (dltN_f h1) (cj (o_frz sz_ARat (site_20 : List ARat) (Eq.refl (site_20 : List ARat).length)) (cj h2 True.intro)))) (by kernel_rfl)
end poly_derive
namespace poly_Degree
theorem e0 (p : List ARat) (h1 : InI64 ((p.length : Int) - 1)) : Contract prg 70 [(polyPV p)] (vI ((p.length : Int) - 1)) :=
  Contract.ofL Tryz.func70 (by kernel_rfl) (L.done mixed tabOk (n := 72) (ns := [1, 1]) (tr := [.reg [], .reg [.none, (iI (p.length : Int)), (iI ((p.length : Int) - 1))]]) (cj (o_len ARat.cells p) (cj (bs_sub h1) True.intro)) (by kernel_rfl))
end poly_Degree
namespace poly_Over
@[reducible] noncomputable def fn : Func := Tryz.f84
noncomputable def atK1 : List Itm := focus [0, 2, 0, 0, 2, 0, 2, 1, 2, 0, 2, 0, 0, 2, 0, 0] [.code (bodyOf fn)]
def inv1 (p : List ARat) (i_8 : Int) (rV site_7 : ARange) : St := ⟨[(0, (.pv (polyPV p))), (3, (.ptr 3 0)), (4, (.ptr 4 0)), (7, (.ptr 7 0)), (8, (eI i_8))], [(3, (.lit [(eB rV.lo.neg), (.pv (wordsPV rV.lo.num)), (.pv (wordsPV rV.lo.den)), (eB rV.hi.neg), (.pv (wordsPV rV.hi.num)), (.pv (wordsPV rV.hi.den))])), (4, (.lit [(eB false), (.pv (.list [])), (.pv (.list [])), (eB false), (.pv (.list [])), (.pv (.list []))])), (7, (.lit [(eB site_7.lo.neg), (.pv (wordsPV site_7.lo.num)), (.pv (wordsPV site_7.lo.den)), (eB site_7.hi.neg), (.pv (wordsPV site_7.hi.num)), (.pv (wordsPV site_7.hi.den))]))]⟩
@[reducible] noncomputable def Loop1 (p : List ARat) (i_8 : Int) (rV site_7 : ARange) (r : PV) : Prop := L prg fn atK1 (inv1 p i_8 rV site_7) r
theorem e0 (p : List ARat) (rV : ARange) {r : PV} (h1 : Contract prg 61 [(polyPV p)] .nilI) (h2 : InI64 ((p.length : Int) - 1)) (hL : Loop1 p ((p.length : Int) - 1) rV (⟨(⟨false, [], []⟩ : ARat), (⟨false, [], []⟩ : ARat)⟩ : ARange) r) : Contract prg 84 [(polyPV p), rV.pv] r :=
  Contract.ofL Tryz.func84 (by kernel_rfl) (L.go mixed tabOk (n := 108) (ns := [1, 1, 1]) (tr := [.reg [], .reg [.none, (.pv .nilI)], .reg [], .auto, .reg [], .reg [.none, (iI (p.length : Int)), (iI ((p.length : Int) - 1))], .keep [0, 3, 4, 7, 8], .ord [3, 4, 7]]) (cj h1 (cj (o_len ARat.cells p) (cj (bs_sub h2) True.intro))) (by kernel_rfl) hL)
theorem l10 (p : List ARat) (i_8 : Int) (rV site_7 : ARange) (k : Nat) (v : ARat) (poi : ARange) {r : PV} (h1 : 0 ≤ i_8) (h2 : InI64 ((p.length : Int) - 1)) (h3 : i_8 = ((p.length : Int) - 1)) (h4 : i_8 = (k : Int)) (h5 : p[k]? = some v) (h6 : Contract prg 132 [v.pv] poi.pv) (h7 : InI64 (i_8 - 1)) (hL : Loop1 p (i_8 - 1) rV poi r) : Loop1 p i_8 rV site_7 r :=
  L.go mixed tabOk (n := 162) (ns := [1, 1, 1, 1, 3, 1, 1]) (tr := [.auto, .reg [], .dec true, .reg [.none, .none, (iI (p.length : Int)), (iI ((p.length : Int) - 1))], .dec true, .reg [.none, .none, (.row k (ARat.cells v)), .none, (.pv poi.pv)], .reg [.none, (iI (i_8 - 1))], .keep [0, 3, 4, 7, 8]]) (cj (dle_t h1) (cj (o_len ARat.cells p) (cj (bs_sub h2) (cj (deq_t h3) (cj (o_at ARat.cells h4 h5) (cj h6 (cj (bs_sub h7) True.intro))))))) (by kernel_rfl) hL
theorem l11 (p : List ARat) (i_8 : Int) (rV site_7 mul : ARange) (k : Nat) (v : ARat) (poi add : ARange) {r : PV} (h1 : 0 ≤ i_8) (h2 : InI64 ((p.length : Int) - 1)) (h3 : i_8 ≠ ((p.length : Int) - 1)) (h4 : Contract prg 134 [site_7.pv, rV.pv] mul.pv) (h5 : i_8 = (k : Int)) (h6 : p[k]? = some v) (h7 : Contract prg 132 [v.pv] poi.pv) (h8 : Contract prg 133 [mul.pv, poi.pv] add.pv) (h9 : InI64 (i_8 - 1)) (hL : Loop1 p (i_8 - 1) rV add r) : Loop1 p i_8 rV site_7 r :=
  L.go mixed tabOk (n := 156) (ns := [1, 1, 1, 1, 1, 3, 1, 1, 1]) (tr := [.auto, .reg [], .dec true, .reg [.none, .none, (iI (p.length : Int)), (iI ((p.length : Int) - 1))], .dec false, dr 9 1 [.none, .none, (.pv mul.pv), .none, .none, (.row k (ARat.cells v)), .none, (.pv poi.pv), (.pv add.pv)], .reg [.none, (iI (i_8 - 1))], .keep [0, 3, 4, 7, 8]]) (cj (dle_t h1) (cj (o_len ARat.cells p) (cj (bs_sub h2) (cj (deq_f h3) (cj h4 (cj (o_at ARat.cells h5 h6) (cj h7 (cj h8 (cj (bs_sub h9) True.intro))))))))) (by kernel_rfl) hL
theorem l12 (p : List ARat) (i_8 : Int) (rV site_7 : ARange) (h1 : i_8 < 0) : Loop1 p i_8 rV site_7 (.tup [site_7.pv, .nilI]) :=
  L.done mixed tabOk (n := 141) (ns := [1]) (tr := [.auto, .reg [], .dec false, .reg []]) (cj (dle_f h1) True.intro) (by kernel_rfl)
end poly_Over
end Go.Proofs.YtcgbmnkgmepikaaGreat.Sym.Path
namespace Go.Proofs.YtcgbmnkgmepikaaGreat.Sym
open Go Path CInt
set_option linter.unusedVariables false
namespace CPo
theorem addZ (a : ARat) (h : FitR a) : Contract prg 32 [a.pv, (⟨false, [], []⟩ : ARat).pv] (mkR a.val).pv := by
  have hf := CFr.Add a ⟨false, [], []⟩ h ⟨by simp, by simp⟩
  rwa [val_nil (a := ⟨false, [], []⟩) rfl, Rat.add_zero] at hf
theorem Trim2 : ∀ (n : Nat) (q : List Rat), q.length = n → n < 4611686018427387904 → Fl 274877906944 q → poly_Trim.Loop2 (q.map mkR) (polyPV ((trimL q).map mkR)) := by
  intro n
  induction n with
  | zero =>
    intro q hq _ _
    have : q = [] := List.eq_nil_of_length_eq_zero hq
    subst this
    exact poly_Trim.l22 [] (by simp)
  | succ n ih =>
    intro q hq hb hf
    obtain ⟨v, hv⟩ : ∃ v, q[n]? = some v := ⟨_, List.getElem?_eq_getElem (by omega)⟩
    have hs := snoc_of hv hq
    have hm : (q.map mkR)[n]? = some (mkR v) := by rw [List.getElem?_map, hv]; rfl
    have hv1 := hf v (List.mem_of_getElem? hv)
    have sg := CFr.Sign (mkR v) (fit_mkR hv1)
    rw [mkR_val] at sg
    have hl : (q.map mkR).length = n + 1 := by rw [List.length_map]; exact hq
    by_cases h0 : v = 0
    · refine poly_Trim.l20 (q.map mkR) n (mkR v) _ n (by omega) (by unfold InI64; omega) (by omega) (by omega) hm sg (cmpR_eq.2 h0) (by omega) (by omega) ?_
      have := ih (q.take n) (by rw [List.length_take]; omega) (by omega) (fun x hx => hf x (List.mem_of_mem_take hx))
      rw [List.map_take] at this
      rw [hs, h0, trimL_zero]
      rw [← hs.symm, ← h0, ← hs] at *
      exact this
    · rw [hs, trimL_ne h0, ← hs]
      exact poly_Trim.l21 (q.map mkR) n (mkR v) _ (by omega) (by unfold InI64; omega) (by omega) (by omega) hm sg (fun e => h0 (cmpR_eq.1 e))
theorem Trim (l : List ARat) (hl : l.length ≤ 1099511627776) (hf : FitP 274877906944 l) : Contract prg 55 [polyPV l] (polyPV ((trimL (vals l)).map mkR)) := by
  have loop : ∀ (j t : Nat) (site : List ARat), l.length - t = j → t ≤ l.length → site = (l.take t).map (fun a => mkR a.val) → poly_Trim.Loop1 site l t (polyPV ((trimL (vals l)).map mkR)) := by
    intro j
    induction j with
    | zero =>
      intro t site hj ht hs
      have hte : t = l.length := by omega
      subst hte
      refine poly_Trim.l11 site l _ (Nat.le_refl _) ?_
      rw [List.take_of_length_le (Nat.le_refl _)] at hs
      have := Trim2 (vals l).length (vals l) rfl (by unfold vals; rw [List.length_map]; omega) (fl_vals hf (by omega))
      have e : site = (vals l).map mkR := by rw [hs]; unfold vals; rw [List.map_map]; rfl
      rw [e]; exact this
    | succ j ih =>
      intro t site hj ht hs
      obtain ⟨v, hv⟩ : ∃ v, l[t]? = some v := ⟨_, List.getElem?_eq_getElem (by omega)⟩
      have ha := addZ v (hf v (List.mem_of_getElem? hv))
      have hsl : site.length = t := by rw [hs, List.length_map, List.length_take]; omega
      refine poly_Trim.l10 site l t v _ (by omega) hv ha (by simp; omega) (by omega) (ih (t + 1) _ (by omega) (by omega) ?_)
      rw [hs, List.take_add_one, hv]; simp
  exact poly_Trim.e0 l (loop _ 0 [] rfl (by omega) rfl)
theorem Check1 : ∀ (j : Nat) (p : List ARat) (t : Nat), p.length - t = j → t ≤ p.length → p.length ≤ 65 → FitP 274877906944 p → (p.take t).all ARat.valid = true →
    (p.all ARat.valid = false → poly_Check.Loop1 p t (.iface 57 (vI 2))) ∧ (p.all ARat.valid = true → lastZ (vals p) = true → poly_Check.Loop1 p t (.iface 57 (vI 8))) ∧ (p.all ARat.valid = true → lastZ (vals p) = false → poly_Check.Loop1 p t .nilI) := by
  intro j
  induction j with
  | zero =>
    intro p t hj ht hl hf hv
    have hte : t = p.length := by omega
    subst hte
    rw [List.take_of_length_le (Nat.le_refl _)] at hv
    refine ⟨fun h => ?_, fun _ hz => ?_, fun _ hz => ?_⟩
    · rw [hv] at h; cases h
    · obtain ⟨v, h0, h1, h2⟩ := lastZ_true hz
      have sg := CFr.Sign v (hf v (List.mem_of_getElem? h1))
      exact poly_Check.l12 p _ (p.length - 1) v _ (Nat.le_refl _) h0 (by unfold InI64; omega) (by omega) h1 sg (cmpR_eq.2 h2)
    · by_cases h0 : p.length = 0
      · exact poly_Check.l14 p _ (Nat.le_refl _) (by omega)
      · obtain ⟨v, h1, h2⟩ := lastZ_false hz h0
        have sg := CFr.Sign v (hf v (List.mem_of_getElem? h1))
        exact poly_Check.l13 p _ (p.length - 1) v _ (Nat.le_refl _) (by omega) (by unfold InI64; omega) (by omega) h1 sg (fun e => h2 (cmpR_eq.1 e))
  | succ j ih =>
    intro p t hj ht hl hf hv
    obtain ⟨v, h1⟩ : ∃ v, p[t]? = some v := ⟨_, List.getElem?_eq_getElem (by omega)⟩
    have hva := CFr.Valid v (hf v (List.mem_of_getElem? h1))
    cases hc : v.valid with
    | false =>
      have hall : p.all ARat.valid = false := by
        rw [List.all_eq_false]
        exact ⟨v, List.mem_of_getElem? h1, by rw [hc]; simp⟩
      refine ⟨fun _ => poly_Check.l10 p t v _ (by omega) h1 hva hc, fun h => ?_, fun h => ?_⟩
      · rw [hall] at h; cases h
      · rw [hall] at h; cases h
    | true =>
      obtain ⟨g1, g2, g3⟩ := ih p (t + 1) (by omega) (by omega) hl hf (by rw [List.take_add_one, h1]; simp [hv, hc])
      exact ⟨fun h => poly_Check.l11 p t v _ (by omega) h1 hva hc (by omega) (g1 h), fun h h' => poly_Check.l11 p t v _ (by omega) h1 hva hc (by omega) (g2 h h'), fun h h' => poly_Check.l11 p t v _ (by omega) h1 hva hc (by omega) (g3 h h')⟩
theorem Check (p : List ARat) (hf : FitP 274877906944 p) : Contract prg 61 [polyPV p] (errPV (errOf (chk p))) := by
  unfold chk
  by_cases hl : p.length ≤ 65
  · rw [if_neg (by omega)]
    obtain ⟨g1, g2, g3⟩ := Check1 _ p 0 rfl (by omega) hl hf (by simp)
    cases hv : p.all ARat.valid with
    | false => exact poly_Check.e1 p hl (g1 hv)
    | true =>
      cases hz : lastZ (vals p) with
      | true => exact poly_Check.e1 p hl (g2 hv hz)
      | false => exact poly_Check.e1 p hl (g3 hv hz)
  · rw [if_pos (by omega)]
    exact poly_Check.e0 p (by omega)
theorem Eval1 (p : List ARat) (x : ARat) (hl : p.length ≤ 65) (hp : FitP 1073741824 p) (hx : x.num.length ≤ 1073741824 ∧ x.den.length ≤ 1073741824) : ∀ (n : Nat) (q : Rat), n ≤ p.length → q = evalL ((vals p).drop n) x.val →
    poly_Eval.Loop1 p ((n : Int) - 1) x (mkR q) (.tup [(mkR (evalL (vals p) x.val)).pv, .nilI]) := by
  intro n
  induction n with
  | zero =>
    intro q _ hq
    rw [List.drop_zero] at hq
    rw [← hq]
    exact poly_Eval.l11 p _ x _ (by omega)
  | succ n ih =>
    intro q hn hq
    obtain ⟨v, hv⟩ : ∃ v, p[n]? = some v := ⟨_, List.getElem?_eq_getElem (by omega)⟩
    have hvf := hp v (List.mem_of_getElem? hv)
    have b1 := ht_fit hvf.1 hvf.2 (by omega)
    have b2 := ht_fit hx.1 hx.2 (by omega)
    have b3 : ht q ≤ 65 * 2147483649 + 1 := by
      rw [hq]
      refine Nat.le_trans (ht_eval _ x.val 1073741824 (fun y hy => fl_vals hp (by omega) y (List.mem_of_mem_drop hy)) b2) ?_
      have : ((vals p).drop (n + 1)).length ≤ 65 := by unfold vals; simp; omega
      omega
    have m := CFr.Mul (mkR q) x (fit_mkR (by omega)) ⟨by omega, by omega⟩
    rw [mkR_val] at m
    have b4 := ht_mul q x.val
    have s := CFr.Add (mkR (q * x.val)) v (fit_mkR (by omega)) ⟨by omega, by omega⟩
    rw [mkR_val] at s
    have := ih (q * x.val + v.val) (by omega) (by rw [hq, vals_drop hv]; rfl)
    rw [show ((n + 1 : Nat) : Int) - 1 = (n : Int) from by omega]
    exact poly_Eval.l10 p (n : Int) x _ _ n v _ (by omega) m rfl hv s (by unfold InI64; omega) this
theorem Eval (p : List ARat) (x : ARat) (hc : chk p = 0) (hp : FitP 1073741824 p) (hx : x.num.length ≤ 1073741824 ∧ x.den.length ≤ 1073741824) : Contract prg 16 [polyPV p, x.pv] (.tup [(mkR (evalL (vals p) x.val)).pv, .nilI]) := by
  have hk := Check p (fun a ha => ⟨by have := (hp a ha).1; omega, by have := (hp a ha).2; omega⟩)
  rw [hc] at hk
  have hl := chk_len hc
  exact poly_Eval.e0 p x hk (by unfold InI64; omega) (Eval1 p x hl hp hx p.length 0 (Nat.le_refl _) (by rw [List.drop_of_length_le (by unfold vals; simp)]; rfl))
theorem derive (p : List ARat) (hl : p.length ≤ 65) (hp : FitP 137438953472 p) : Contract prg 63 [polyPV p] (polyPV ((deriveL (vals p)).map mkR)) := by
  have loop : ∀ (j i : Nat) (site : List ARat), p.length - i = j → 1 ≤ i → site = (derI 1 (((vals p).take i).drop 1)).map mkR → poly_derive.Loop1 p site i (polyPV ((deriveL (vals p)).map mkR)) := by
    intro j
    induction j with
    | zero =>
      intro i site hj h1 hs
      rw [List.take_of_length_le (by unfold vals; rw [List.length_map]; omega)] at hs
      have hfit : Fl 274877906944 (derI 1 ((vals p).drop 1)) := fl_derI (k := 137438953472) (by omega) _ 1 (by unfold vals; simp; omega) (fun y hy => fl_vals hp (by omega) y (List.mem_of_mem_drop hy))
      have ht := Trim site (by rw [hs, List.length_map, derI_len]; unfold vals; simp; omega) (by rw [hs]; exact fit_map hfit)
      rw [hs, vals_mkR] at ht
      rw [hs]
      exact poly_derive.l11 p _ i _ (by omega) ht
    | succ j ih =>
      intro i site hj h1 hs
      obtain ⟨v, hv⟩ : ∃ v, p[i]? = some v := ⟨_, List.getElem?_eq_getElem (by omega)⟩
      have hvf := hp v (List.mem_of_getElem? hv)
      have ho := CFr.Of (i : Int) (by unfold InI64; omega)
      have b1 : ht ((i : Int) : Rat) ≤ 2 := by
        rw [ht_int]
        have : wl (i : Int) ≤ 2 := wl_le (by omega)
        omega
      have m := CFr.Mul (mkR ((i : Int) : Rat)) v (fit_mkR (by omega)) ⟨by omega, by omega⟩
      rw [mkR_val] at m
      have hsl : site.length = i - 1 := by rw [hs, List.length_map, derI_len]; unfold vals; simp; omega
      refine poly_derive.l10 p site i _ v _ (by omega) ho hv m (by simp; omega) (by omega) (ih (i + 1) _ (by omega) (by omega) ?_)
      rw [hs, derI_take hv h1]
      simp
  exact poly_derive.e0 p (loop _ 1 [] rfl (by omega) (by rw [show (((vals p).take 1).drop 1) = [] from by simp]; rfl))
theorem Derive (p : List ARat) (hc : chk p = 0) (hp : FitP 137438953472 p) : Contract prg 18 [polyPV p] (.tup [polyPV ((deriveL (vals p)).map mkR), .nilI]) := by
  have hk := Check p (fun a ha => ⟨by have := (hp a ha).1; omega, by have := (hp a ha).2; omega⟩)
  rw [hc] at hk
  exact poly_Derive.e0 p _ hk (derive p (chk_len hc) hp)
end CPo
end Go.Proofs.YtcgbmnkgmepikaaGreat.Sym
namespace Go.Proofs.YtcgbmnkgmepikaaGreat.Sym.Path
open Go
set_option maxRecDepth 20000
set_option linter.unusedVariables false
namespace linkworkref05_Trim
@[reducible] noncomputable def fn : Func := Tryz.f60
noncomputable def atK1 : List Itm := focus [0, 2, 0, 2, 0, 0, 2, 0, 0] [.code (bodyOf fn)]
def inv1 (site_17 l : List ARat) (t_8 : Nat) : St := ⟨[(3, (.row 17 0 site_17.length 3)), (6, (.pv (polyPV l))), (7, (eI (l.length : Int))), (8, (eI (t_8 : Int)))], [(17, (.pure ((site_17 : List ARat).map ARat.cells).flatten))]⟩
@[reducible] noncomputable def Loop1 (site_17 l : List ARat) (t_8 : Nat) (r : PV) : Prop := L prg fn atK1 (inv1 site_17 l t_8) r
noncomputable def atK2 : List Itm := focus [0, 2, 0, 2, 0, 0, 2, 0, 0, 0, 0, 2, 0, 1, 2, 2, 2, 2, 0, 0, 0] [.code (bodyOf fn)]
def inv2 (site_17 : List ARat) : St := ⟨[(3, (.row 17 0 site_17.length 3))], [(17, (.pure ((site_17 : List ARat).map ARat.cells).flatten))]⟩
@[reducible] noncomputable def Loop2 (site_17 : List ARat) (r : PV) : Prop := L prg fn atK2 (inv2 site_17) r
theorem e0 (l : List ARat) {r : PV}  (hL : Loop1 [] l 0 r) : Contract prg 60 [(polyPV l)] r :=
  Contract.ofL Tryz.func60 (by kernel_rfl) (L.go mixed tabOk (n := 87) (ns := [1]) (tr := [.reg [], .reg [.nil], .adopt 3 17 3, .reg [.none, (iI (l.length : Int))], .keep [3, 6, 7, 8]]) (cj (o_len ARat.cells l) True.intro) (by kernel_rfl) hL)
theorem l10 (site_17 l : List ARat) (t_8 : Nat) (v add : ARat) {r : PV} (h1 : t_8 < l.length) (h2 : l[t_8]? = some v) (h3 : Contract prg 105 [v.pv, (⟨false, [], []⟩ : ARat).pv] add.pv) (h4 : ((site_17 ++ [add]) : List ARat).length * 56 ≤ 140737488355328) (h5 : (t_8 + 1) < 9223372036854775808) (hL : Loop1 (site_17 ++ [add]) l (t_8 + 1) r) : Loop1 site_17 l t_8 r :=
  L.go mixed tabOk (n := 126) (ns := [1, 3, 1, 6, 1]) (tr := [.auto, .reg [], .dec true, .reg [(.row t_8 (ARat.cells v))], .reg [.none, .none, .none, (.pv add.pv), .none, (.app ((site_17 ++ [add]) : List ARat).length (((site_17 ++ [add]) : List ARat).map ARat.cells).flatten)], .reg [(iI (((t_8 + 1) : Nat) : Int))], .keep [3, 6, 7, 8], .drop [16, 5]]) (cj (dltN_t h1) (cj (o_at ARat.cells (Eq.refl (((t_8 : Nat) : Int) : Int)) h2) (cj h3 (cj (o_appR sz_ARat (site_17 : List ARat) ([add] : List ARat) 56 (Eq.refl (site_17 : List ARat).length) (Eq.refl ([add] : List ARat).length) h4 rfl) (cj (bs_addN h5) True.intro))))) (by kernel_rfl) hL
theorem l11 (site_17 l : List ARat) (t_8 : Nat) {r : PV} (h1 : l.length ≤ t_8) (hL : Loop2 site_17 r) : Loop1 site_17 l t_8 r :=
  L.go mixed tabOk (n := 123) (ns := [1]) (tr := [.auto, .reg [], .dec false, .keep [3]]) (cj (dltN_f h1) True.intro) (by kernel_rfl) hL
theorem l20 (site_17 : List ARat) (k : Nat) (v : ARat) (sig : Int) (u : Nat) {r : PV} (h1 : 0 < site_17.length) (h2 : InI64 ((site_17.length : Int) - 1)) (h3 : ((site_17.length : Int) - 1) = (k : Int)) (h4 : k < site_17.length) (h5 : site_17[k]? = some v) (h6 : Contract prg 19 [v.pv] (vI sig)) (h7 : sig = 0) (h8 : ((site_17.length : Int) - 1) = (u : Int)) (h9 : u ≤ (site_17 : List ARat).length) (hL : Loop2 (site_17.take u) r) : Loop2 site_17 r :=
  L.go mixed tabOk (n := 150) (ns := [1, 1, 1, 1, 1, 1, 2, 1, 2, 1, 1, 1, 1, 1, 1, 5, 1]) (tr := [.auto, .reg [.none, .none, .none, .none, .none, .none, .none, (iI ((site_17.length : Int) - 1)), (.nat k), (.seg [(vB v.neg), (wordsPV v.num), (wordsPV v.den)]), (.pv (vI sig)), .none, (.dec true)], .dec true, .reg [.none, .none, .none, (iI ((site_17.length : Int) - 1)), (.slc 0 ((site_17.take u).length) [])], .cut 17 (u * 3) (((site_17.take u) : List ARat).map ARat.cells).flatten, .keep [3]]) (cj (dltN_t h1) (cj (dltN_t h1) (cj (dltN_t h1) (cj (dltN_t h1) (cj (bs_sub h2) (cj (dltN_t h1) (cj (cj h3 h4) (cj (dltN_t h1) (cj (o_seg sz_ARat h5) (cj (dltN_t h1) (cj h6 (cj (dltN_t h1) (cj (dltN_t h1) (cj (deq_t h7) (cj (bs_sub h2) (cj (o_sr0 (site_17 : List ARat) h8 h9) (cj (o_cut sz_ARat (site_17 : List ARat) u) True.intro))))))))))))))))) (by kernel_rfl) hL
theorem l21 (site_17 : List ARat) (k : Nat) (v : ARat) (sig : Int) (h1 : 0 < site_17.length) (h2 : InI64 ((site_17.length : Int) - 1)) (h3 : ((site_17.length : Int) - 1) = (k : Int)) (h4 : k < site_17.length) (h5 : site_17[k]? = some v) (h6 : Contract prg 19 [v.pv] (vI sig)) (h7 : sig ≠ 0) : Loop2 site_17 (polyPV site_17) :=
  L.done mixed tabOk (n := 156) (ns := [1, 1, 1, 1, 1, 1, 2, 1, 2, 1, 1, 1, 1, 1, 3]) (tr := [.auto, .reg [.none, .none, .none, .none, .none, .none, .none, (iI ((site_17.length : Int) - 1)), (.nat k), (.seg [(vB v.neg), (wordsPV v.num), (wordsPV v.den)]), (.pv (vI sig)), .none, (.dec true)], .dec false, .reg [], .frzT 2 ((site_17 : List ARat).map ARat.cells)]) (cj (dltN_t h1) (cj (dltN_t h1) (cj (dltN_t h1) (cj (dltN_t h1) (cj (bs_sub h2) (cj (dltN_t h1) (cj (cj h3 h4) (cj (dltN_t h1) (cj (o_seg sz_ARat h5) (cj (dltN_t h1) (cj h6 (cj (dltN_t h1) (cj (dltN_t h1) (cj (deq_f h7) (cj (o_frz sz_ARat (site_17 : List ARat) (Eq.refl (site_17 : List ARat).length)) True.intro))))))))))))))) (by kernel_rfl)
theorem l22 (site_17 : List ARat) (h1 : site_17.length ≤ 0) : Loop2 site_17 (polyPV site_17) :=
  L.done mixed tabOk (n := 156) (ns := [1, 1, 1, 1, 1, 1, 1, 1, 1, 3]) (tr := [.auto, .reg [.none, .none, .none, .none, .skip, .skip, .skip, .skip, .skip, .skip, .skip, .skip, (.dec false)], .auto, .reg [], .frzT 2 ((site_17 : List ARat).map ARat.cells)]) (cj (dltN_f h1) (cj (dltN_f h1) (cj (dltN_f h1) (cj (dltN_f h1) (cj (dltN_f h1) (cj (dltN_f h1) (cj (dltN_f h1) (cj (dltN_f h1) (cj (dltN_f h1) (cj (o_frz sz_ARat (site_17 : List ARat) (Eq.refl (site_17 : List ARat).length)) True.intro)))))))))) (by kernel_rfl)
end linkworkref05_Trim
namespace linkworkref05_Check
@[reducible] noncomputable def fn : Func := Tryz.f69
noncomputable def atK1 : List Itm := focus [0, 2, 0, 0, 2, 1, 2, 0, 0, 2, 0, 0] [.code (bodyOf fn)]
def inv1 (p : List ARat) (t_10 : Nat) : St := ⟨[(0, (.pv (polyPV p))), (8, (.pv (polyPV p))), (9, (eI (p.length : Int))), (10, (eI (t_10 : Int)))], []⟩
@[reducible] noncomputable def Loop1 (p : List ARat) (t_10 : Nat) (r : PV) : Prop := L prg fn atK1 (inv1 p t_10) r
theorem e0 (p : List ARat) (h1 : 65 < p.length) : Contract prg 69 [(polyPV p)] (vI 4) :=
  Contract.ofL Tryz.func69 (by kernel_rfl) (L.done mixed tabOk (n := 84) (ns := [1, 1]) (tr := [.reg [], .reg [.none, (iI (p.length : Int))], .dec true, .reg []]) (cj (o_len ARat.cells p) (cj (dltN_t h1) True.intro)) (by kernel_rfl))
theorem e1 (p : List ARat) {r : PV} (h1 : p.length ≤ 65) (hL : Loop1 p 0 r) : Contract prg 69 [(polyPV p)] r :=
  Contract.ofL Tryz.func69 (by kernel_rfl) (L.go mixed tabOk (n := 96) (ns := [1, 1, 1]) (tr := [.reg [], .reg [.none, (iI (p.length : Int))], .dec false, .reg [.none, (iI (p.length : Int))], .keep [0, 8, 9, 10]]) (cj (o_len ARat.cells p) (cj (dltN_f h1) (cj (o_len ARat.cells p) True.intro))) (by kernel_rfl) hL)
theorem l10 (p : List ARat) (t_10 : Nat) (v : ARat) (val : Bool) (h1 : t_10 < p.length) (h2 : p[t_10]? = some v) (h3 : Contract prg 28 [v.pv] (vB val)) (h4 : val = false) : Loop1 p t_10 (vI 2) :=
  L.done mixed tabOk (n := 141) (ns := [1, 3, 1, 1]) (tr := [.auto, .reg [], .dec true, .reg [(.row t_10 (ARat.cells v))], .reg [.none, (.pv (vB val))], .dec true, .reg []]) (cj (dltN_t h1) (cj (o_at ARat.cells (Eq.refl (((t_10 : Nat) : Int) : Int)) h2) (cj h3 (cj (bnot_t h4) True.intro)))) (by kernel_rfl)
theorem l11 (p : List ARat) (t_10 : Nat) (v : ARat) (val : Bool) {r : PV} (h1 : t_10 < p.length) (h2 : p[t_10]? = some v) (h3 : Contract prg 28 [v.pv] (vB val)) (h4 : val = true) (h5 : (t_10 + 1) < 9223372036854775808) (hL : Loop1 p (t_10 + 1) r) : Loop1 p t_10 r :=
  L.go mixed tabOk (n := 144) (ns := [1, 3, 1, 1, 1]) (tr := [.auto, .reg [], .dec true, .reg [(.row t_10 (ARat.cells v))], .reg [.none, (.pv (vB val))], .dec false, .reg [(iI (((t_10 + 1) : Nat) : Int))], .keep [0, 8, 9, 10], .drop [4]]) (cj (dltN_t h1) (cj (o_at ARat.cells (Eq.refl (((t_10 : Nat) : Int) : Int)) h2) (cj h3 (cj (bnot_f h4) (cj (bs_addN h5) True.intro))))) (by kernel_rfl) hL
theorem l12 (p : List ARat) (t_10 k : Nat) (v : ARat) (sig : Int) (h1 : p.length ≤ t_10) (h2 : 0 < p.length) (h3 : InI64 ((p.length : Int) - 1)) (h4 : ((p.length : Int) - 1) = (k : Int)) (h5 : p[k]? = some v) (h6 : Contract prg 19 [v.pv] (vI sig)) (h7 : sig = 0) : Loop1 p t_10 (vI 8) :=
  L.done mixed tabOk (n := 141) (ns := [1, 1, 1, 1, 1, 1, 1, 1, 1, 3, 1, 1, 1, 1, 1, 1]) (tr := [.auto, .reg [], .dec false, .reg [.none, (iI (p.length : Int)), .none, .none, .none, .none, (iI (p.length : Int)), (iI ((p.length : Int) - 1)), (.row k (ARat.cells v)), .none, (.pv (vI sig)), .none, (.dec true)], .dec true, .reg []]) (cj (dltN_f h1) (cj (o_len ARat.cells p) (cj (dltN_t h2) (cj (dltN_t h2) (cj (dltN_t h2) (cj (o_len ARat.cells p) (cj (dltN_t h2) (cj (bs_sub h3) (cj (dltN_t h2) (cj (o_at ARat.cells h4 h5) (cj (dltN_t h2) (cj (dltN_t h2) (cj h6 (cj (dltN_t h2) (cj (dltN_t h2) (cj (deq_t h7) True.intro)))))))))))))))) (by kernel_rfl)
theorem l13 (p : List ARat) (t_10 k : Nat) (v : ARat) (sig : Int) (h1 : p.length ≤ t_10) (h2 : 0 < p.length) (h3 : InI64 ((p.length : Int) - 1)) (h4 : ((p.length : Int) - 1) = (k : Int)) (h5 : p[k]? = some v) (h6 : Contract prg 19 [v.pv] (vI sig)) (h7 : sig ≠ 0) : Loop1 p t_10 (vI 0) :=
  L.done mixed tabOk (n := 144) (ns := [1, 1, 1, 1, 1, 1, 1, 1, 1, 3, 1, 1, 1, 1, 1, 1]) (tr := [.auto, .reg [], .dec false, .reg [.none, (iI (p.length : Int)), .none, .none, .none, .none, (iI (p.length : Int)), (iI ((p.length : Int) - 1)), (.row k (ARat.cells v)), .none, (.pv (vI sig)), .none, (.dec true)], .dec false, .reg []]) (cj (dltN_f h1) (cj (o_len ARat.cells p) (cj (dltN_t h2) (cj (dltN_t h2) (cj (dltN_t h2) (cj (o_len ARat.cells p) (cj (dltN_t h2) (cj (bs_sub h3) (cj (dltN_t h2) (cj (o_at ARat.cells h4 h5) (cj (dltN_t h2) (cj (dltN_t h2) (cj h6 (cj (dltN_t h2) (cj (dltN_t h2) (cj (deq_f h7) True.intro)))))))))))))))) (by kernel_rfl)
theorem l14 (p : List ARat) (t_10 : Nat) (h1 : p.length ≤ t_10) (h2 : p.length ≤ 0) : Loop1 p t_10 (vI 0) :=
  L.done mixed tabOk (n := 144) (ns := [1, 1, 1, 1, 1, 1, 1, 1, 1, 1, 1]) (tr := [.auto, .reg [], .dec false, .reg [.none, (iI (p.length : Int)), .none, .none, .skip, .skip, .skip, .skip, .skip, .skip, .skip, .skip, (.dec false)], .auto, .reg []]) (cj (dltN_f h1) (cj (o_len ARat.cells p) (cj (dltN_f h2) (cj (dltN_f h2) (cj (dltN_f h2) (cj (dltN_f h2) (cj (dltN_f h2) (cj (dltN_f h2) (cj (dltN_f h2) (cj (dltN_f h2) (cj (dltN_f h2) True.intro))))))))))) (by kernel_rfl)
end linkworkref05_Check
namespace linkworkref05_At
@[reducible] noncomputable def fn : Func := Tryz.f77
noncomputable def atK1 : List Itm := focus [0, 2, 0, 2, 0, 0, 2, 0, 0] [.code (bodyOf fn)]
def inv1 (p : List ARat) (i_6 : Int) (x site_5 : ARat) : St := ⟨[(0, (.pv (polyPV p))), (3, (.ptr 3 0)), (4, (.ptr 4 0)), (5, (.ptr 5 0)), (6, (eI i_6))], [(3, (.lit [(eB x.neg), (.pv (wordsPV x.num)), (.pv (wordsPV x.den))])), (4, (.lit [(eB false), (.pv (.list [])), (.pv (.list []))])), (5, (.lit [(eB site_5.neg), (.pv (wordsPV site_5.num)), (.pv (wordsPV site_5.den))]))]⟩
@[reducible] noncomputable def Loop1 (p : List ARat) (i_6 : Int) (x site_5 : ARat) (r : PV) : Prop := L prg fn atK1 (inv1 p i_6 x site_5) r
theorem e0 (p : List ARat) (x : ARat) {r : PV} (h1 : InI64 ((p.length : Int) - 1)) (hL : Loop1 p ((p.length : Int) - 1) x (⟨false, [], []⟩ : ARat) r) : Contract prg 77 [(polyPV p), x.pv] r :=
  Contract.ofL Tryz.func77 (by kernel_rfl) (L.go mixed tabOk (n := 87) (ns := [1, 1]) (tr := [.reg [], .reg [], .reg [.none, (iI (p.length : Int)), (iI ((p.length : Int) - 1))], .keep [0, 3, 4, 5, 6], .ord [3, 4, 5]]) (cj (o_len ARat.cells p) (cj (bs_sub h1) True.intro)) (by kernel_rfl) hL)
theorem l10 (p : List ARat) (i_6 : Int) (x site_5 mul : ARat) (k : Nat) (v add : ARat) {r : PV} (h1 : 0 ≤ i_6) (h2 : Contract prg 57 [site_5.pv, x.pv] mul.pv) (h3 : i_6 = (k : Int)) (h4 : p[k]? = some v) (h5 : Contract prg 105 [mul.pv, v.pv] add.pv) (h6 : InI64 (i_6 - 1)) (hL : Loop1 p (i_6 - 1) x add r) : Loop1 p i_6 x site_5 r :=
  L.go mixed tabOk (n := 120) (ns := [1, 1, 3, 1, 1]) (tr := [.auto, .reg [], .dec true, dr 8 1 [.none, .none, (.pv mul.pv), .none, .none, (.row k (ARat.cells v)), .none, (.pv add.pv)], .reg [.none, (iI (i_6 - 1))], .keep [0, 3, 4, 5, 6]]) (cj (dle_t h1) (cj h2 (cj (o_at ARat.cells h3 h4) (cj h5 (cj (bs_sub h6) True.intro))))) (by kernel_rfl) hL
theorem l11 (p : List ARat) (i_6 : Int) (x site_5 : ARat) (h1 : i_6 < 0) : Loop1 p i_6 x site_5 site_5.pv :=
  L.done mixed tabOk (n := 120) (ns := [1]) (tr := [.auto, .reg [], .dec false, .reg []]) (cj (dle_f h1) True.intro) (by kernel_rfl)
end linkworkref05_At
namespace linkworkref05_Over
@[reducible] noncomputable def fn : Func := Tryz.f96
noncomputable def atK1 : List Itm := focus [0, 2, 0, 0, 2, 0, 2, 1, 2, 0, 2, 0, 0, 2, 0, 0] [.code (bodyOf fn)]
def inv1 (p : List ARat) (i_8 : Int) (rV site_7 : ARange) : St := ⟨[(0, (.pv (polyPV p))), (3, (.ptr 3 0)), (4, (.ptr 4 0)), (7, (.ptr 7 0)), (8, (eI i_8))], [(3, (.lit [(eB rV.lo.neg), (.pv (wordsPV rV.lo.num)), (.pv (wordsPV rV.lo.den)), (eB rV.hi.neg), (.pv (wordsPV rV.hi.num)), (.pv (wordsPV rV.hi.den))])), (4, (.lit [(eB false), (.pv (.list [])), (.pv (.list [])), (eB false), (.pv (.list [])), (.pv (.list []))])), (7, (.lit [(eB site_7.lo.neg), (.pv (wordsPV site_7.lo.num)), (.pv (wordsPV site_7.lo.den)), (eB site_7.hi.neg), (.pv (wordsPV site_7.hi.num)), (.pv (wordsPV site_7.hi.den))]))]⟩
@[reducible] noncomputable def Loop1 (p : List ARat) (i_8 : Int) (rV site_7 : ARange) (r : PV) : Prop := L prg fn atK1 (inv1 p i_8 rV site_7) r
theorem e1 (p : List ARat) (rV : ARange) (che : Int) {r : PV} (h1 : Contract prg 69 [(polyPV p)] (vI che)) (h2 : che = 0) (h3 : InI64 ((p.length : Int) - 1)) (hL : Loop1 p ((p.length : Int) - 1) rV (⟨(⟨false, [], []⟩ : ARat), (⟨false, [], []⟩ : ARat)⟩ : ARange) r) : Contract prg 96 [(polyPV p), rV.pv] r :=
  Contract.ofL Tryz.func96 (by kernel_rfl) (L.go mixed tabOk (n := 108) (ns := [1, 1, 1, 1]) (tr := [.reg [], .reg [.none, (.pv (vI che))], .reg [], .dec false, .reg [], .reg [.none, (iI (p.length : Int)), (iI ((p.length : Int) - 1))], .keep [0, 3, 4, 7, 8], .ord [3, 4, 7]]) (cj h1 (cj (dne_f h2) (cj (o_len ARat.cells p) (cj (bs_sub h3) True.intro)))) (by kernel_rfl) hL)
theorem l10 (p : List ARat) (i_8 : Int) (rV site_7 mul : ARange) (k : Nat) (v : ARat) (poi add : ARange) {r : PV} (h1 : 0 ≤ i_8) (h2 : Contract prg 140 [site_7.pv, rV.pv] mul.pv) (h3 : i_8 = (k : Int)) (h4 : p[k]? = some v) (h5 : Contract prg 141 [v.pv] poi.pv) (h6 : Contract prg 139 [mul.pv, poi.pv] add.pv) (h7 : InI64 (i_8 - 1)) (hL : Loop1 p (i_8 - 1) rV add r) : Loop1 p i_8 rV site_7 r :=
  L.go mixed tabOk (n := 141) (ns := [1, 1, 3, 1, 1, 1]) (tr := [.auto, .reg [], .dec true, dr 9 1 [.none, .none, (.pv mul.pv), .none, .none, (.row k (ARat.cells v)), .none, (.pv poi.pv), (.pv add.pv)], .reg [.none, (iI (i_8 - 1))], .keep [0, 3, 4, 7, 8]]) (cj (dle_t h1) (cj h2 (cj (o_at ARat.cells h3 h4) (cj h5 (cj h6 (cj (bs_sub h7) True.intro)))))) (by kernel_rfl) hL
theorem l11 (p : List ARat) (i_8 : Int) (rV site_7 : ARange) (h1 : i_8 < 0) : Loop1 p i_8 rV site_7 (.tup [site_7.pv, (vI 0)]) :=
  L.done mixed tabOk (n := 141) (ns := [1]) (tr := [.auto, .reg [], .dec false, .reg []]) (cj (dle_f h1) True.intro) (by kernel_rfl)
end linkworkref05_Over
namespace linkworkref05_Derive
theorem e1 (p : List ARat) (che : Int) (der : List ARat) (h1 : Contract prg 69 [(polyPV p)] (vI che)) (h2 : che = 0) (h3 : Contract prg 156 [(polyPV p)] (polyPV der)) : Contract prg 119 [(polyPV p)] (.tup [(polyPV der), (vI 0)]) :=
  Contract.ofL Tryz.func119 (by kernel_rfl) (L.done mixed tabOk (n := 93) (ns := [1, 1, 1]) (tr := [.reg [], .reg [.none, (.pv (vI che))], .reg [], .dec false, .reg [.none, (.pv (polyPV der))]]) (cj h1 (cj (dne_f h2) (cj h3 True.intro))) (by kernel_rfl))
end linkworkref05_Derive
namespace linkworkref05_derive
@[reducible] noncomputable def fn : Func := Tryz.f156
noncomputable def atK1 : List Itm := focus [0, 2, 0, 2, 0, 0, 2, 0, 0] [.code (bodyOf fn)]
def inv1 (site_21 p : List ARat) (t_8 : Nat) : St := ⟨[(3, (.row 21 0 site_21.length 3)), (6, (.pv (polyPV p))), (7, (eI (p.length : Int))), (8, (eI (t_8 : Int)))], [(21, (.pure ((site_21 : List ARat).map ARat.cells).flatten))]⟩
@[reducible] noncomputable def Loop1 (site_21 p : List ARat) (t_8 : Nat) (r : PV) : Prop := L prg fn atK1 (inv1 site_21 p t_8) r
theorem e0 (p : List ARat) {r : PV}  (hL : Loop1 [] p 0 r) : Contract prg 156 [(polyPV p)] r :=
  Contract.ofL Tryz.func156 (by kernel_rfl) (L.go mixed tabOk (n := 87) (ns := [1]) (tr := [.reg [], .reg [.nil], .adopt 3 21 3, .reg [.none, (iI (p.length : Int))], .keep [3, 6, 7, 8]]) (cj (o_len ARat.cells p) True.intro) (by kernel_rfl) hL)
theorem l10 (site_21 p : List ARat) (t_8 : Nat) (v of mul : ARat) {r : PV} (h1 : t_8 < p.length) (h2 : p[t_8]? = some v) (h3 : 0 < t_8) (h4 : Contract prg 58 [(vI (t_8 : Int))] of.pv) (h5 : Contract prg 57 [of.pv, v.pv] mul.pv) (h6 : ((site_21 ++ [mul]) : List ARat).length * 56 ≤ 140737488355328) (h7 : (t_8 + 1) < 9223372036854775808) (hL : Loop1 (site_21 ++ [mul]) p (t_8 + 1) r) : Loop1 site_21 p t_8 r :=
  L.go mixed tabOk (n := 135) (ns := [1, 3, 1, 1, 1, 6, 1]) (tr := [.auto, .reg [], .dec true, .reg [.none, (.row t_8 (ARat.cells v))], .reg [], .dec true, dr 6 2 [.none, .none, (.pv of.pv), .none, (.pv mul.pv), .none, (.app ((site_21 ++ [mul]) : List ARat).length (((site_21 ++ [mul]) : List ARat).map ARat.cells).flatten)], .reg [(iI (((t_8 + 1) : Nat) : Int))], .keep [3, 6, 7, 8], .drop [20, 5]]) (cj (dltN_t h1) (cj (o_at ARat.cells (Eq.refl (((t_8 : Nat) : Int) : Int)) h2) (cj (dltN_t h3) (cj h4 (cj h5 (cj (o_appR sz_ARat (site_21 : List ARat) ([mul] : List ARat) 56 (Eq.refl (site_21 : List ARat).length) (Eq.refl ([mul] : List ARat).length) h6 rfl) (cj (bs_addN h7) True.intro))))))) (by kernel_rfl) hL
theorem l11 (site_21 p : List ARat) (t_8 : Nat) (v : ARat) {r : PV} (h1 : t_8 < p.length) (h2 : p[t_8]? = some v) (h3 : t_8 ≤ 0) (h4 : (t_8 + 1) < 9223372036854775808) (hL : Loop1 site_21 p (t_8 + 1) r) : Loop1 site_21 p t_8 r :=
  L.go mixed tabOk (n := 135) (ns := [1, 3, 1, 1]) (tr := [.auto, .reg [], .dec true, .reg [.none, (.row t_8 (ARat.cells v))], .reg [], .dec false, .reg [(iI (((t_8 + 1) : Nat) : Int))], .keep [3, 6, 7, 8], .drop [5]]) (cj (dltN_t h1) (cj (o_at ARat.cells (Eq.refl (((t_8 : Nat) : Int) : Int)) h2) (cj (dltN_f h3) (cj (bs_addN h4) True.intro)))) (by kernel_rfl) hL
theorem l12 (site_21 p : List ARat) (t_8 : Nat) (tri : List ARat) (h1 : p.length ≤ t_8) (h2 : Contract prg 60 [(polyPV site_21)] (polyPV tri)) : Loop1 site_21 p t_8 (polyPV tri) :=
  L.done mixed tabOk (n := 120) (ns := [1, 3, 1]) (tr := [.auto, .reg [], .dec false, .frzT 3 ((site_21 : List ARat).map ARat.cells), .reg [.none, (.pv (polyPV tri))]]) (cj (dltN_f h1) (cj (o_frz sz_ARat (site_21 : List ARat) (Eq.refl (site_21 : List ARat).length)) (cj h2 True.intro))) (by kernel_rfl)
end linkworkref05_derive
end Go.Proofs.YtcgbmnkgmepikaaGreat.Sym.Path
namespace Go.Proofs.YtcgbmnkgmepikaaGreat.Sym
open Go Path CInt
set_option linter.unusedVariables false
namespace CRe
theorem addZ (a : ARat) (h : FitR a) : Contract prg 105 [a.pv, (⟨false, [], []⟩ : ARat).pv] (mkR a.val).pv := by
  have hf := CRb.Add a ⟨false, [], []⟩ h ⟨by simp, by simp⟩
  rwa [val_nil (a := ⟨false, [], []⟩) rfl, Rat.add_zero] at hf
theorem Trim2 : ∀ (n : Nat) (q : List Rat), q.length = n → n < 4611686018427387904 → Fl 274877906944 q → linkworkref05_Trim.Loop2 (q.map mkR) (polyPV ((trimL q).map mkR)) := by
  intro n
  induction n with
  | zero =>
    intro q hq _ _
    have : q = [] := List.eq_nil_of_length_eq_zero hq
    subst this
    exact linkworkref05_Trim.l22 [] (by simp)
  | succ n ih =>
    intro q hq hb hf
    obtain ⟨v, hv⟩ : ∃ v, q[n]? = some v := ⟨_, List.getElem?_eq_getElem (by omega)⟩
    have hs := snoc_of hv hq
    have hm : (q.map mkR)[n]? = some (mkR v) := by rw [List.getElem?_map, hv]; rfl
    have hv1 := hf v (List.mem_of_getElem? hv)
    have sg := CRb.Sign (mkR v) (fit_mkR hv1)
    rw [mkR_val] at sg
    have hl : (q.map mkR).length = n + 1 := by rw [List.length_map]; exact hq
    by_cases h0 : v = 0
    · refine linkworkref05_Trim.l20 (q.map mkR) n (mkR v) _ n (by omega) (by unfold InI64; omega) (by omega) (by omega) hm sg (cmpR_eq.2 h0) (by omega) (by omega) ?_
      have := ih (q.take n) (by rw [List.length_take]; omega) (by omega) (fun x hx => hf x (List.mem_of_mem_take hx))
      rw [List.map_take] at this
      rw [hs, h0, trimL_zero]
      rw [← hs.symm, ← h0, ← hs] at *
      exact this
    · rw [hs, trimL_ne h0, ← hs]
      exact linkworkref05_Trim.l21 (q.map mkR) n (mkR v) _ (by omega) (by unfold InI64; omega) (by omega) (by omega) hm sg (fun e => h0 (cmpR_eq.1 e))
theorem Trim (l : List ARat) (hl : l.length ≤ 1099511627776) (hf : FitP 274877906944 l) : Contract prg 60 [polyPV l] (polyPV ((trimL (vals l)).map mkR)) := by
  have loop : ∀ (j t : Nat) (site : List ARat), l.length - t = j → t ≤ l.length → site = (l.take t).map (fun a => mkR a.val) → linkworkref05_Trim.Loop1 site l t (polyPV ((trimL (vals l)).map mkR)) := by
    intro j
    induction j with
    | zero =>
      intro t site hj ht hs
      have hte : t = l.length := by omega
      subst hte
      refine linkworkref05_Trim.l11 site l _ (Nat.le_refl _) ?_
      rw [List.take_of_length_le (Nat.le_refl _)] at hs
      have := Trim2 (vals l).length (vals l) rfl (by unfold vals; rw [List.length_map]; omega) (fl_vals hf (by omega))
      have e : site = (vals l).map mkR := by rw [hs]; unfold vals; rw [List.map_map]; rfl
      rw [e]; exact this
    | succ j ih =>
      intro t site hj ht hs
      obtain ⟨v, hv⟩ : ∃ v, l[t]? = some v := ⟨_, List.getElem?_eq_getElem (by omega)⟩
      have ha := addZ v (hf v (List.mem_of_getElem? hv))
      have hsl : site.length = t := by rw [hs, List.length_map, List.length_take]; omega
      refine linkworkref05_Trim.l10 site l t v _ (by omega) hv ha (by simp; omega) (by omega) (ih (t + 1) _ (by omega) (by omega) ?_)
      rw [hs, List.take_add_one, hv]; simp
  exact linkworkref05_Trim.e0 l (loop _ 0 [] rfl (by omega) rfl)
theorem Check1 : ∀ (j : Nat) (p : List ARat) (t : Nat), p.length - t = j → t ≤ p.length → p.length ≤ 65 → FitP 274877906944 p → (p.take t).all ARat.valid = true →
    (p.all ARat.valid = false → linkworkref05_Check.Loop1 p t (vI 2)) ∧ (p.all ARat.valid = true → lastZ (vals p) = true → linkworkref05_Check.Loop1 p t (vI 8)) ∧ (p.all ARat.valid = true → lastZ (vals p) = false → linkworkref05_Check.Loop1 p t (vI 0)) := by
  intro j
  induction j with
  | zero =>
    intro p t hj ht hl hf hv
    have hte : t = p.length := by omega
    subst hte
    rw [List.take_of_length_le (Nat.le_refl _)] at hv
    refine ⟨fun h => ?_, fun _ hz => ?_, fun _ hz => ?_⟩
    · rw [hv] at h; cases h
    · obtain ⟨v, h0, h1, h2⟩ := lastZ_true hz
      have sg := CRb.Sign v (hf v (List.mem_of_getElem? h1))
      exact linkworkref05_Check.l12 p _ (p.length - 1) v _ (Nat.le_refl _) h0 (by unfold InI64; omega) (by omega) h1 sg (cmpR_eq.2 h2)
    · by_cases h0 : p.length = 0
      · exact linkworkref05_Check.l14 p _ (Nat.le_refl _) (by omega)
      · obtain ⟨v, h1, h2⟩ := lastZ_false hz h0
        have sg := CRb.Sign v (hf v (List.mem_of_getElem? h1))
        exact linkworkref05_Check.l13 p _ (p.length - 1) v _ (Nat.le_refl _) (by omega) (by unfold InI64; omega) (by omega) h1 sg (fun e => h2 (cmpR_eq.1 e))
  | succ j ih =>
    intro p t hj ht hl hf hv
    obtain ⟨v, h1⟩ : ∃ v, p[t]? = some v := ⟨_, List.getElem?_eq_getElem (by omega)⟩
    have hva := CRb.Valid v (hf v (List.mem_of_getElem? h1))
    cases hc : v.valid with
    | false =>
      have hall : p.all ARat.valid = false := by
        rw [List.all_eq_false]
        exact ⟨v, List.mem_of_getElem? h1, by rw [hc]; simp⟩
      refine ⟨fun _ => linkworkref05_Check.l10 p t v _ (by omega) h1 hva hc, fun h => ?_, fun h => ?_⟩
      · rw [hall] at h; cases h
      · rw [hall] at h; cases h
    | true =>
      obtain ⟨g1, g2, g3⟩ := ih p (t + 1) (by omega) (by omega) hl hf (by rw [List.take_add_one, h1]; simp [hv, hc])
      exact ⟨fun h => linkworkref05_Check.l11 p t v _ (by omega) h1 hva hc (by omega) (g1 h), fun h h' => linkworkref05_Check.l11 p t v _ (by omega) h1 hva hc (by omega) (g2 h h'), fun h h' => linkworkref05_Check.l11 p t v _ (by omega) h1 hva hc (by omega) (g3 h h')⟩
theorem Check (p : List ARat) (hf : FitP 274877906944 p) : Contract prg 69 [polyPV p] (vI (chk p)) := by
  unfold chk
  by_cases hl : p.length ≤ 65
  · rw [if_neg (by omega)]
    obtain ⟨g1, g2, g3⟩ := Check1 _ p 0 rfl (by omega) hl hf (by simp)
    cases hv : p.all ARat.valid with
    | false => exact linkworkref05_Check.e1 p hl (g1 hv)
    | true =>
      cases hz : lastZ (vals p) with
      | true => exact linkworkref05_Check.e1 p hl (g2 hv hz)
      | false => exact linkworkref05_Check.e1 p hl (g3 hv hz)
  · rw [if_pos (by omega)]
    exact linkworkref05_Check.e0 p (by omega)
theorem Eval1 (p : List ARat) (x : ARat) (hl : p.length ≤ 65) (hp : FitP 1073741824 p) (hx : x.num.length ≤ 1073741824 ∧ x.den.length ≤ 1073741824) : ∀ (n : Nat) (q : Rat), n ≤ p.length → q = evalL ((vals p).drop n) x.val →
    linkworkref05_At.Loop1 p ((n : Int) - 1) x (mkR q) (mkR (evalL (vals p) x.val)).pv := by
  intro n
  induction n with
  | zero =>
    intro q _ hq
    rw [List.drop_zero] at hq
    rw [← hq]
    exact linkworkref05_At.l11 p _ x _ (by omega)
  | succ n ih =>
    intro q hn hq
    obtain ⟨v, hv⟩ : ∃ v, p[n]? = some v := ⟨_, List.getElem?_eq_getElem (by omega)⟩
    have hvf := hp v (List.mem_of_getElem? hv)
    have b1 := ht_fit hvf.1 hvf.2 (by omega)
    have b2 := ht_fit hx.1 hx.2 (by omega)
    have b3 : ht q ≤ 65 * 2147483649 + 1 := by
      rw [hq]
      refine Nat.le_trans (ht_eval _ x.val 1073741824 (fun y hy => fl_vals hp (by omega) y (List.mem_of_mem_drop hy)) b2) ?_
      have : ((vals p).drop (n + 1)).length ≤ 65 := by unfold vals; simp; omega
      omega
    have m := CRb.Mul (mkR q) x (fit_mkR (by omega)) ⟨by omega, by omega⟩
    rw [mkR_val] at m
    have b4 := ht_mul q x.val
    have s := CRb.Add (mkR (q * x.val)) v (fit_mkR (by omega)) ⟨by omega, by omega⟩
    rw [mkR_val] at s
    have := ih (q * x.val + v.val) (by omega) (by rw [hq, vals_drop hv]; rfl)
    rw [show ((n + 1 : Nat) : Int) - 1 = (n : Int) from by omega]
    exact linkworkref05_At.l10 p (n : Int) x _ _ n v _ (by omega) m rfl hv s (by unfold InI64; omega) this
theorem At (p : List ARat) (x : ARat) (hl : p.length ≤ 65) (hp : FitP 1073741824 p) (hx : x.num.length ≤ 1073741824 ∧ x.den.length ≤ 1073741824) : Contract prg 77 [polyPV p, x.pv] (mkR (evalL (vals p) x.val)).pv := by
  exact linkworkref05_At.e0 p x (by unfold InI64; omega) (Eval1 p x hl hp hx p.length 0 (Nat.le_refl _) (by rw [List.drop_of_length_le (by unfold vals; simp)]; rfl))
theorem derive (p : List ARat) (hl : p.length ≤ 65) (hp : FitP 137438953472 p) : Contract prg 156 [polyPV p] (polyPV ((deriveL (vals p)).map mkR)) := by
  have loop : ∀ (j i : Nat) (site : List ARat), p.length - i = j → i ≤ p.length → site = (derI 1 (((vals p).take i).drop 1)).map mkR → linkworkref05_derive.Loop1 site p i (polyPV ((deriveL (vals p)).map mkR)) := by
    intro j
    induction j with
    | zero =>
      intro i site hj h1 hs
      rw [List.take_of_length_le (by unfold vals; rw [List.length_map]; omega)] at hs
      have hfit : Fl 274877906944 (derI 1 ((vals p).drop 1)) := fl_derI (k := 137438953472) (by omega) _ 1 (by unfold vals; simp; omega) (fun y hy => fl_vals hp (by omega) y (List.mem_of_mem_drop hy))
      have ht := Trim site (by rw [hs, List.length_map, derI_len]; unfold vals; simp; omega) (by rw [hs]; exact fit_map hfit)
      rw [hs, vals_mkR] at ht
      rw [hs]
      exact linkworkref05_derive.l12 _ p i _ (by omega) ht
    | succ j ih =>
      intro i site hj h1 hs
      obtain ⟨v, hv⟩ : ∃ v, p[i]? = some v := ⟨_, List.getElem?_eq_getElem (by omega)⟩
      by_cases hi : i = 0
      · subst hi
        refine linkworkref05_derive.l11 site p 0 v (by omega) hv (by omega) (by omega) (ih 1 site (by omega) (by omega) ?_)
        rw [hs]; simp
      · have hvf := hp v (List.mem_of_getElem? hv)
        have ho := CRb.Of (i : Int) (by unfold InI64; omega)
        have b1 : ht ((i : Int) : Rat) ≤ 2 := by
          rw [ht_int]
          have : wl (i : Int) ≤ 2 := wl_le (by omega)
          omega
        have m := CRb.Mul (mkR ((i : Int) : Rat)) v (fit_mkR (by omega)) ⟨by omega, by omega⟩
        rw [mkR_val] at m
        have hsl : site.length = i - 1 := by rw [hs, List.length_map, derI_len]; unfold vals; simp; omega
        refine linkworkref05_derive.l10 site p i v _ _ (by omega) hv (by omega) ho m (by simp; omega) (by omega) (ih (i + 1) _ (by omega) (by omega) ?_)
        rw [hs, derI_take hv (by omega)]
        simp
  exact linkworkref05_derive.e0 p (loop _ 0 [] rfl (by omega) (by rw [show (((vals p).take 0).drop 1) = [] from by simp]; rfl))
theorem Derive (p : List ARat) (hc : chk p = 0) (hp : FitP 137438953472 p) : Contract prg 119 [polyPV p] (.tup [polyPV ((deriveL (vals p)).map mkR), vI 0]) := by
  have hk := Check p (fun a ha => ⟨by have := (hp a ha).1; omega, by have := (hp a ha).2; omega⟩)
  exact linkworkref05_Derive.e1 p _ _ hk hc (derive p (chk_len hc) hp)
end CRe
end Go.Proofs.YtcgbmnkgmepikaaGreat.Sym
namespace Go.Proofs.YtcgbmnkgmepikaaGreat.Sym
open Go Path CInt
set_option linter.unusedVariables false
theorem cmpR_ge {p q : Rat} : 0 ≤ cmpR p q ↔ q ≤ p := by
  constructor
  · intro h
    have : ¬ p < q := fun e => by have := cmpR_lt.2 e; omega
    grind
  · intro h
    refine Int.not_lt.1 fun e => ?_
    have := cmpR_lt.1 e
    grind
theorem cmpR_le {p q : Rat} : cmpR p q ≤ 0 ↔ p ≤ q := by
  constructor
  · intro h
    have : ¬ q < p := fun e => by have := cmpR_gt.2 e; omega
    grind
  · intro h
    refine Int.not_lt.1 fun e => ?_
    have := cmpR_gt.1 e
    grind
theorem drop_cons {α : Type} {l : List α} {t : Nat} {v : α} (h : l[t]? = some v) : l.drop t = v :: l.drop (t + 1) := by
  obtain ⟨h1, h2⟩ := List.getElem?_eq_some_iff.1 h
  rw [List.drop_eq_getElem_cons h1, h2]
theorem ht_min (p q : Rat) {k : Nat} (hp : ht p ≤ k) (hq : ht q ≤ k) : ht (minR p q) ≤ k := by unfold minR; split <;> assumption
theorem ht_max (p q : Rat) {k : Nat} (hp : ht p ≤ k) (hq : ht q ≤ k) : ht (maxR p q) ≤ k := by unfold maxR; split <;> assumption
theorem minR_self (p : Rat) : minR p p = p := by unfold minR; split <;> rfl
theorem maxR_self (p : Rat) : maxR p p = p := by unfold maxR; split <;> rfl
theorem minR_le_l (p q : Rat) : minR p q ≤ p := by
  unfold minR; split
  · exact Rat.le_refl
  · rename_i h; have := mt cmpR_le.2 h; grind
theorem minR_le_r (p q : Rat) : minR p q ≤ q := by
  unfold minR; split
  · rename_i h; exact cmpR_le.1 h
  · exact Rat.le_refl
theorem maxR_ge_l (p q : Rat) : p ≤ maxR p q := by
  unfold maxR; split
  · exact Rat.le_refl
  · rename_i h; have := mt cmpR_ge.2 h; grind
theorem maxR_ge_r (p q : Rat) : q ≤ maxR p q := by
  unfold maxR; split
  · rename_i h; exact cmpR_ge.1 h
  · exact Rat.le_refl
theorem minR_of_le {p q : Rat} (h : p ≤ q) : minR p q = p := by unfold minR; rw [if_pos (cmpR_le.2 h)]
theorem maxR_of_le {p q : Rat} (h : p ≤ q) : maxR p q = q := by
  unfold maxR; split
  · rename_i h2; have := cmpR_ge.1 h2; exact Rat.le_antisymm h this
  · rfl
theorem maxR_le {a p q : Rat} (h : p ≤ a) (h2 : q ≤ a) : maxR p q ≤ a := by unfold maxR; split <;> assumption
namespace QF
theorem Add (p q : Rat) (hp : ht p ≤ 68719476736) (hq : ht q ≤ 68719476736) : Contract prg 32 [(mkR p).pv, (mkR q).pv] (mkR (p + q)).pv := by
  have h := CFr.Add (mkR p) (mkR q) ⟨by have := (fit_mkRk hp).1; omega, by have := (fit_mkRk hp).2; omega⟩ ⟨by have := (fit_mkRk hq).1; omega, by have := (fit_mkRk hq).2; omega⟩
  rwa [mkR_val, mkR_val] at h
theorem Sub (p q : Rat) (hp : ht p ≤ 68719476736) (hq : ht q ≤ 68719476736) : Contract prg 51 [(mkR p).pv, (mkR q).pv] (mkR (p - q)).pv := by
  have h := CFr.Sub (mkR p) (mkR q) ⟨by have := (fit_mkRk hp).1; omega, by have := (fit_mkRk hp).2; omega⟩ ⟨by have := (fit_mkRk hq).1; omega, by have := (fit_mkRk hq).2; omega⟩
  rwa [mkR_val, mkR_val] at h
theorem Mul (p q : Rat) (hp : ht p ≤ 68719476736) (hq : ht q ≤ 68719476736) : Contract prg 54 [(mkR p).pv, (mkR q).pv] (mkR (p * q)).pv := by
  have h := CFr.Mul (mkR p) (mkR q) ⟨by have := (fit_mkRk hp).1; omega, by have := (fit_mkRk hp).2; omega⟩ ⟨by have := (fit_mkRk hq).1; omega, by have := (fit_mkRk hq).2; omega⟩
  rwa [mkR_val, mkR_val] at h
theorem Cmp (p q : Rat) (hp : ht p ≤ 68719476736) (hq : ht q ≤ 68719476736) : Contract prg 38 [(mkR p).pv, (mkR q).pv] (vI (cmpR p q)) := by
  have h := CFr.Cmp (mkR p) (mkR q) ⟨by have := (fit_mkRk hp).1; omega, by have := (fit_mkRk hp).2; omega⟩ ⟨by have := (fit_mkRk hq).1; omega, by have := (fit_mkRk hq).2; omega⟩
  rwa [mkR_val, mkR_val] at h
theorem Min (p q : Rat) (hp : ht p ≤ 68719476736) (hq : ht q ≤ 68719476736) : Contract prg 135 [(mkR p).pv, (mkR q).pv] (mkR (minR p q)).pv := by
  have h := CFr.Min (mkR p) (mkR q) ⟨by have := (fit_mkRk hp).1; omega, by have := (fit_mkRk hp).2; omega⟩ ⟨by have := (fit_mkRk hq).1; omega, by have := (fit_mkRk hq).2; omega⟩
  rwa [mkR_val, mkR_val] at h
theorem Max (p q : Rat) (hp : ht p ≤ 68719476736) (hq : ht q ≤ 68719476736) : Contract prg 136 [(mkR p).pv, (mkR q).pv] (mkR (maxR p q)).pv := by
  have h := CFr.Max (mkR p) (mkR q) ⟨by have := (fit_mkRk hp).1; omega, by have := (fit_mkRk hp).2; omega⟩ ⟨by have := (fit_mkRk hq).1; omega, by have := (fit_mkRk hq).2; omega⟩
  rwa [mkR_val, mkR_val] at h
theorem addZ (p : Rat) (hp : ht p ≤ 68719476736) : Contract prg 32 [(mkR p).pv, (⟨false, [], []⟩ : ARat).pv] (mkR p).pv := by
  have h := Add p 0 hp (by decide)
  rwa [Rat.add_zero] at h
end QF
namespace QR
theorem Add (p q : Rat) (hp : ht p ≤ 68719476736) (hq : ht q ≤ 68719476736) : Contract prg 105 [(mkR p).pv, (mkR q).pv] (mkR (p + q)).pv := by
  have h := CRb.Add (mkR p) (mkR q) ⟨by have := (fit_mkRk hp).1; omega, by have := (fit_mkRk hp).2; omega⟩ ⟨by have := (fit_mkRk hq).1; omega, by have := (fit_mkRk hq).2; omega⟩
  rwa [mkR_val, mkR_val] at h
theorem Sub (p q : Rat) (hp : ht p ≤ 68719476736) (hq : ht q ≤ 68719476736) : Contract prg 56 [(mkR p).pv, (mkR q).pv] (mkR (p - q)).pv := by
  have h := CRb.Sub (mkR p) (mkR q) ⟨by have := (fit_mkRk hp).1; omega, by have := (fit_mkRk hp).2; omega⟩ ⟨by have := (fit_mkRk hq).1; omega, by have := (fit_mkRk hq).2; omega⟩
  rwa [mkR_val, mkR_val] at h
theorem Mul (p q : Rat) (hp : ht p ≤ 68719476736) (hq : ht q ≤ 68719476736) : Contract prg 57 [(mkR p).pv, (mkR q).pv] (mkR (p * q)).pv := by
  have h := CRb.Mul (mkR p) (mkR q) ⟨by have := (fit_mkRk hp).1; omega, by have := (fit_mkRk hp).2; omega⟩ ⟨by have := (fit_mkRk hq).1; omega, by have := (fit_mkRk hq).2; omega⟩
  rwa [mkR_val, mkR_val] at h
theorem Cmp (p q : Rat) (hp : ht p ≤ 68719476736) (hq : ht q ≤ 68719476736) : Contract prg 68 [(mkR p).pv, (mkR q).pv] (vI (cmpR p q)) := by
  have h := CRb.Cmp (mkR p) (mkR q) ⟨by have := (fit_mkRk hp).1; omega, by have := (fit_mkRk hp).2; omega⟩ ⟨by have := (fit_mkRk hq).1; omega, by have := (fit_mkRk hq).2; omega⟩
  rwa [mkR_val, mkR_val] at h
theorem Min (p q : Rat) (hp : ht p ≤ 68719476736) (hq : ht q ≤ 68719476736) : Contract prg 168 [(mkR p).pv, (mkR q).pv] (mkR (minR p q)).pv := by
  have h := CRb.Min (mkR p) (mkR q) ⟨by have := (fit_mkRk hp).1; omega, by have := (fit_mkRk hp).2; omega⟩ ⟨by have := (fit_mkRk hq).1; omega, by have := (fit_mkRk hq).2; omega⟩
  rwa [mkR_val, mkR_val] at h
theorem Max (p q : Rat) (hp : ht p ≤ 68719476736) (hq : ht q ≤ 68719476736) : Contract prg 169 [(mkR p).pv, (mkR q).pv] (mkR (maxR p q)).pv := by
  have h := CRb.Max (mkR p) (mkR q) ⟨by have := (fit_mkRk hp).1; omega, by have := (fit_mkRk hp).2; omega⟩ ⟨by have := (fit_mkRk hq).1; omega, by have := (fit_mkRk hq).2; omega⟩
  rwa [mkR_val, mkR_val] at h
theorem addZ (p : Rat) (hp : ht p ≤ 68719476736) : Contract prg 105 [(mkR p).pv, (⟨false, [], []⟩ : ARat).pv] (mkR p).pv := by
  have h := Add p 0 hp (by decide)
  rwa [Rat.add_zero] at h
end QR
end Go.Proofs.YtcgbmnkgmepikaaGreat.Sym
namespace Go.Proofs.YtcgbmnkgmepikaaGreat.Sym.Path
open Go
set_option maxRecDepth 20000
set_option linter.unusedVariables false
namespace linkworkbase_Num
theorem e0   : Contract prg 14 [.nilI] (vI 0) :=
  Contract.ofL Tryz.func14 (by kernel_rfl) (L.done mixed tabOk (n := 84) (ns := []) (tr := [.reg [], .reg [], .auto, .reg []]) True.intro (by kernel_rfl))
theorem e1 (e : Int)  : Contract prg 14 [(.iface 57 (vI e))] (vI e) :=
  Contract.ofL Tryz.func14 (by kernel_rfl) (L.done mixed tabOk (n := 108) (ns := []) (tr := [.reg [], .reg [], .auto, .reg [], .reg [], .auto, .reg []]) True.intro (by kernel_rfl))
end linkworkbase_Num
namespace linkworkbase_Rat
theorem e0 (a b : ARat) (wor wor1 : Bool) (h1 : a.neg = b.neg) (h2 : Contract prg 62 [(wordsPV a.num), (wordsPV b.num)] (vB wor)) (h3 : wor = true) (h4 : Contract prg 62 [(wordsPV a.den), (wordsPV b.den)] (vB wor1)) : Contract prg 17 [a.pv, b.pv] (vB wor1) :=
  Contract.ofL Tryz.func17 (by kernel_rfl) (L.done mixed tabOk (n := 72) (ns := [1, 1, 1, 1, 1, 1, 1, 1, 1, 1, 1, 1, 1, 1]) (tr := [.reg [], .reg [.none, .none, .none, .none, .none, .none, .none, .none, .none, .none, (.pv (vB wor)), (.dec true), .none, .none, .none, .none, .none, (.pv (vB wor1)), (.dec true)]]) (cj (beq_t h1) (cj (beq_t h1) (cj (beq_t h1) (cj (beq_t h1) (cj (beq_t h1) (cj h2 (cj (beq_t h1) (cj h3 (cj h3 (cj h3 (cj h3 (cj h3 (cj h4 (cj h3 True.intro)))))))))))))) (by kernel_rfl))
theorem e1 (a b : ARat) (wor : Bool) (h1 : a.neg = b.neg) (h2 : Contract prg 62 [(wordsPV a.num), (wordsPV b.num)] (vB wor)) (h3 : wor = false) : Contract prg 17 [a.pv, b.pv] (vB false) :=
  Contract.ofL Tryz.func17 (by kernel_rfl) (L.done mixed tabOk (n := 72) (ns := [1, 1, 1, 1, 1, 1, 1, 1, 1, 1, 1, 1, 1]) (tr := [.reg [], .reg [.none, .none, .none, .none, .none, .none, .none, .none, .none, .none, (.pv (vB wor)), (.dec true), .none, .skip, .skip, .skip, .skip, .skip, (.dec false)]]) (cj (beq_t h1) (cj (beq_t h1) (cj (beq_t h1) (cj (beq_t h1) (cj (beq_t h1) (cj h2 (cj (beq_t h1) (cj h3 (cj h3 (cj h3 (cj h3 (cj h3 (cj h3 True.intro))))))))))))) (by kernel_rfl))
theorem e2 (a b : ARat) (h1 : a.neg ≠ b.neg) : Contract prg 17 [a.pv, b.pv] (vB false) :=
  Contract.ofL Tryz.func17 (by kernel_rfl) (L.done mixed tabOk (n := 72) (ns := [1, 1, 1, 1, 1, 1, 1, 1, 1, 1, 1]) (tr := [.reg [], .reg [.none, .none, .none, .none, .none, .none, .skip, .skip, .skip, .skip, .skip, (.dec false), .none, .skip, .skip, .skip, .skip, .skip]]) (cj (beq_f h1) (cj (beq_f h1) (cj (beq_f h1) (cj (beq_f h1) (cj (beq_f h1) (cj (beq_f h1) (cj (Eq.refl false) (cj (Eq.refl false) (cj (Eq.refl false) (cj (Eq.refl false) (cj (Eq.refl false) True.intro))))))))))) (by kernel_rfl))
end linkworkbase_Rat
namespace linkworkbase_Is
theorem e0 (e : Option Int) (code num : Int) (h1 : Contract prg 14 [(errPV e)] (vI num)) : Contract prg 29 [(errPV e), (vI code)] (vB (num == code)) :=
  Contract.ofL Tryz.func29 (by kernel_rfl) (L.done mixed tabOk (n := 72) (ns := [1]) (tr := [.reg [], .reg [.none, (.pv (vI num))]]) (cj h1 True.intro) (by kernel_rfl))
end linkworkbase_Is
namespace linkworkbase_Rats
@[reducible] noncomputable def fn : Func := Tryz.f49
noncomputable def atK1 : List Itm := focus [0, 2, 0, 0, 2, 1, 2, 0, 0, 2, 0, 0] [.code (bodyOf fn)]
def inv1 (a b : List ARat) (i_5 : Nat) : St := ⟨[(0, (.pv (polyPV a))), (1, (.pv (polyPV b))), (5, (eI (i_5 : Int)))], []⟩
@[reducible] noncomputable def Loop1 (a b : List ARat) (i_5 : Nat) (r : PV) : Prop := L prg fn atK1 (inv1 a b i_5) r
theorem e0 (a b : List ARat) (h1 : a.length ≠ b.length) : Contract prg 49 [(polyPV a), (polyPV b)] (vB false) :=
  Contract.ofL Tryz.func49 (by kernel_rfl) (L.done mixed tabOk (n := 84) (ns := [1, 1, 1]) (tr := [.reg [], .reg [.none, (iI (a.length : Int)), .none, (iI (b.length : Int))], .dec true, .reg []]) (cj (o_len ARat.cells a) (cj (o_len ARat.cells b) (cj (dneN_t h1) True.intro))) (by kernel_rfl))
theorem e1 (a b : List ARat) {r : PV} (h1 : a.length = b.length) (hL : Loop1 a b 0 r) : Contract prg 49 [(polyPV a), (polyPV b)] r :=
  Contract.ofL Tryz.func49 (by kernel_rfl) (L.go mixed tabOk (n := 96) (ns := [1, 1, 1]) (tr := [.reg [], .reg [.none, (iI (a.length : Int)), .none, (iI (b.length : Int))], .dec false, .reg [], .keep [0, 1, 5]]) (cj (o_len ARat.cells a) (cj (o_len ARat.cells b) (cj (dneN_f h1) True.intro))) (by kernel_rfl) hL)
theorem l10 (a b : List ARat) (i_5 : Nat) (v v1 : ARat) (rat : Bool) (h1 : i_5 < a.length) (h2 : a[i_5]? = some v) (h3 : b[i_5]? = some v1) (h4 : Contract prg 17 [v.pv, v1.pv] (vB rat)) (h5 : rat = false) : Loop1 a b i_5 (vB false) :=
  L.done mixed tabOk (n := 135) (ns := [1, 1, 3, 3, 1, 1]) (tr := [.auto, .reg [.none, .none, (iI (a.length : Int))], .dec true, dr 10 0 [.none, .none, (.row i_5 (ARat.cells v)), .none, .none, .none, (.row i_5 (ARat.cells v1)), .none, (.pv (vB rat))], .dec true, .reg []]) (cj (o_len ARat.cells a) (cj (dltN_t h1) (cj (o_at ARat.cells (Eq.refl (((i_5 : Nat) : Int) : Int)) h2) (cj (o_at ARat.cells (Eq.refl (((i_5 : Nat) : Int) : Int)) h3) (cj h4 (cj (bnot_t h5) True.intro)))))) (by kernel_rfl)
theorem l11 (a b : List ARat) (i_5 : Nat) (v v1 : ARat) (rat : Bool) {r : PV} (h1 : i_5 < a.length) (h2 : a[i_5]? = some v) (h3 : b[i_5]? = some v1) (h4 : Contract prg 17 [v.pv, v1.pv] (vB rat)) (h5 : rat = true) (h6 : (i_5 + 1) < 9223372036854775808) (hL : Loop1 a b (i_5 + 1) r) : Loop1 a b i_5 r :=
  L.go mixed tabOk (n := 138) (ns := [1, 1, 3, 3, 1, 1, 1]) (tr := [.auto, .reg [.none, .none, (iI (a.length : Int))], .dec true, dr 10 0 [.none, .none, (.row i_5 (ARat.cells v)), .none, .none, .none, (.row i_5 (ARat.cells v1)), .none, (.pv (vB rat))], .dec false, .reg [.none, (iI (((i_5 + 1) : Nat) : Int))], .keep [0, 1, 5]]) (cj (o_len ARat.cells a) (cj (dltN_t h1) (cj (o_at ARat.cells (Eq.refl (((i_5 : Nat) : Int) : Int)) h2) (cj (o_at ARat.cells (Eq.refl (((i_5 : Nat) : Int) : Int)) h3) (cj h4 (cj (bnot_f h5) (cj (bs_addN h6) True.intro))))))) (by kernel_rfl) hL
theorem l12 (a b : List ARat) (i_5 : Nat) (h1 : a.length ≤ i_5) : Loop1 a b i_5 (vB true) :=
  L.done mixed tabOk (n := 129) (ns := [1, 1]) (tr := [.auto, .reg [.none, .none, (iI (a.length : Int))], .dec false, .reg []]) (cj (o_len ARat.cells a) (cj (dltN_f h1) True.intro)) (by kernel_rfl)
end linkworkbase_Rats
namespace linkworkbase_Words
@[reducible] noncomputable def fn : Func := Tryz.f62
noncomputable def atK1 : List Itm := focus [0, 2, 0, 0, 2, 1, 2, 0, 0, 2, 0, 0] [.code (bodyOf fn)]
def inv1 (a b : List UInt32) (i_5 : Nat) : St := ⟨[(0, (.pv (wordsPV a))), (1, (.pv (wordsPV b))), (5, (eI (i_5 : Int)))], []⟩
@[reducible] noncomputable def Loop1 (a b : List UInt32) (i_5 : Nat) (r : PV) : Prop := L prg fn atK1 (inv1 a b i_5) r
theorem e0 (a b : List UInt32) (h1 : a.length ≠ b.length) : Contract prg 62 [(wordsPV a), (wordsPV b)] (vB false) :=
  Contract.ofL Tryz.func62 (by kernel_rfl) (L.done mixed tabOk (n := 84) (ns := [1, 1, 1]) (tr := [.reg [], .reg [.none, (iI (a.length : Int)), .none, (iI (b.length : Int))], .dec true, .reg []]) (cj (o_len wordPV a) (cj (o_len wordPV b) (cj (dneN_t h1) True.intro))) (by kernel_rfl))
theorem e1 (a b : List UInt32) {r : PV} (h1 : a.length = b.length) (hL : Loop1 a b 0 r) : Contract prg 62 [(wordsPV a), (wordsPV b)] r :=
  Contract.ofL Tryz.func62 (by kernel_rfl) (L.go mixed tabOk (n := 96) (ns := [1, 1, 1]) (tr := [.reg [], .reg [.none, (iI (a.length : Int)), .none, (iI (b.length : Int))], .dec false, .reg [], .keep [0, 1, 5]]) (cj (o_len wordPV a) (cj (o_len wordPV b) (cj (dneN_f h1) True.intro))) (by kernel_rfl) hL)
theorem l10 (a b : List UInt32) (i_5 : Nat) (v v1 : UInt32) (h1 : i_5 < a.length) (h2 : a[i_5]? = some v) (h3 : b[i_5]? = some v1) (h4 : v.toNat ≠ v1.toNat) : Loop1 a b i_5 (vB false) :=
  L.done mixed tabOk (n := 135) (ns := [1, 1, 3, 3, 1]) (tr := [.auto, .reg [.none, .none, (iI (a.length : Int))], .dec true, dr 9 0 [.none, .none, (.row i_5 (wordPV v)), .none, .none, .none, (.row i_5 (wordPV v1))], .dec true, .reg []]) (cj (o_len wordPV a) (cj (dltN_t h1) (cj (o_at wordPV (Eq.refl (((i_5 : Nat) : Int) : Int)) h2) (cj (o_at wordPV (Eq.refl (((i_5 : Nat) : Int) : Int)) h3) (cj (dneN_t h4) True.intro))))) (by kernel_rfl)
theorem l11 (a b : List UInt32) (i_5 : Nat) (v v1 : UInt32) {r : PV} (h1 : i_5 < a.length) (h2 : a[i_5]? = some v) (h3 : b[i_5]? = some v1) (h4 : v.toNat = v1.toNat) (h5 : (i_5 + 1) < 9223372036854775808) (hL : Loop1 a b (i_5 + 1) r) : Loop1 a b i_5 r :=
  L.go mixed tabOk (n := 138) (ns := [1, 1, 3, 3, 1, 1]) (tr := [.auto, .reg [.none, .none, (iI (a.length : Int))], .dec true, dr 9 0 [.none, .none, (.row i_5 (wordPV v)), .none, .none, .none, (.row i_5 (wordPV v1))], .dec false, .reg [.none, (iI (((i_5 + 1) : Nat) : Int))], .keep [0, 1, 5]]) (cj (o_len wordPV a) (cj (dltN_t h1) (cj (o_at wordPV (Eq.refl (((i_5 : Nat) : Int) : Int)) h2) (cj (o_at wordPV (Eq.refl (((i_5 : Nat) : Int) : Int)) h3) (cj (dneN_f h4) (cj (bs_addN h5) True.intro)))))) (by kernel_rfl) hL
theorem l12 (a b : List UInt32) (i_5 : Nat) (h1 : a.length ≤ i_5) : Loop1 a b i_5 (vB true) :=
  L.done mixed tabOk (n := 129) (ns := [1, 1]) (tr := [.auto, .reg [.none, .none, (iI (a.length : Int))], .dec false, .reg []]) (cj (o_len wordPV a) (cj (dltN_f h1) True.intro)) (by kernel_rfl)
end linkworkbase_Words
namespace interval_Hull
theorem e0 (a b cle cle1 : ARange) (minV maxV : ARat) (h1 : Contract prg 89 [a.pv] cle.pv) (h2 : Contract prg 89 [b.pv] cle1.pv) (h3 : Contract prg 135 [cle.lo.pv, cle1.lo.pv] minV.pv) (h4 : Contract prg 136 [cle.hi.pv, cle1.hi.pv] maxV.pv) : Contract prg 86 [a.pv, b.pv] ((⟨minV, maxV⟩ : ARange).pv) :=
  Contract.ofL Tryz.func86 (by kernel_rfl) (L.done mixed tabOk (n := 78) (ns := [1, 1, 1, 1]) (tr := [.reg [], dr 4 2 [.none, (.pv cle.pv), .none, (.pv cle1.pv)], dr 11 1 [.none, .none, .none, .none, (.pv minV.pv), .none, .none, .none, .none, (.pv maxV.pv)]]) (cj h1 (cj h2 (cj h3 (cj h4 True.intro)))) (by kernel_rfl))
end interval_Hull
namespace interval_clean
theorem e0 (a : ARange) (val : Bool) (h1 : Contract prg 137 [a.pv] (vB val)) (h2 : val = false) : Contract prg 89 [a.pv] ((⟨(⟨false, [], []⟩ : ARat), (⟨false, [], []⟩ : ARat)⟩ : ARange).pv) :=
  Contract.ofL Tryz.func89 (by kernel_rfl) (L.done mixed tabOk (n := 84) (ns := [1, 1]) (tr := [.reg [], .reg [.none, (.pv (vB val))], .dec true, .reg []]) (cj h1 (cj (bnot_t h2) True.intro)) (by kernel_rfl))
theorem e1 (a : ARange) (val : Bool) (add add1 : ARat) (h1 : Contract prg 137 [a.pv] (vB val)) (h2 : val = true) (h3 : Contract prg 32 [a.lo.pv, (⟨false, [], []⟩ : ARat).pv] add.pv) (h4 : Contract prg 32 [a.hi.pv, (⟨false, [], []⟩ : ARat).pv] add1.pv) : Contract prg 89 [a.pv] ((⟨add, add1⟩ : ARange).pv) :=
  Contract.ofL Tryz.func89 (by kernel_rfl) (L.done mixed tabOk (n := 87) (ns := [1, 1, 1, 1]) (tr := [.reg [], .reg [.none, (.pv (vB val))], .dec false, dr 9 1 [.none, .none, .none, (.pv add.pv), .none, .none, .none, (.pv add1.pv)]]) (cj h1 (cj (bnot_f h2) (cj h3 (cj h4 True.intro)))) (by kernel_rfl))
end interval_clean
namespace linkworkref03_Hull
theorem e0 (a b giv giv1 spa : ARange) (h1 : Contract prg 142 [a.pv] giv.pv) (h2 : Contract prg 142 [b.pv] giv1.pv) (h3 : Contract prg 143 [(polyPV [giv.lo, giv.hi, giv1.lo, giv1.hi])] spa.pv) : Contract prg 98 [a.pv, b.pv] spa.pv :=
  Contract.ofL Tryz.func98 (by kernel_rfl) (L.done mixed tabOk (n := 78) (ns := [1, 1, 3, 1]) (tr := [.reg [], dr 4 2 [.none, (.pv giv.pv), .none, (.pv giv1.pv)], .reg [.none, .none, .none, .none, .none, .none, .none, .none, (.slc 0 0 (([giv.lo, giv.hi, giv1.lo, giv1.hi] : List ARat).map ARat.cells)), (.pv spa.pv)]]) (cj h1 (cj h2 (cj (o_bs sz_ARat ([giv.lo, giv.hi, giv1.lo, giv1.hi] : List ARat)) (cj h3 True.intro)))) (by kernel_rfl))
end linkworkref03_Hull
namespace interval_Point
theorem e0 (x add add1 : ARat) (h1 : Contract prg 32 [x.pv, (⟨false, [], []⟩ : ARat).pv] add.pv) (h2 : Contract prg 32 [x.pv, (⟨false, [], []⟩ : ARat).pv] add1.pv) : Contract prg 132 [x.pv] ((⟨add, add1⟩ : ARange).pv) :=
  Contract.ofL Tryz.func132 (by kernel_rfl) (L.done mixed tabOk (n := 72) (ns := [1, 1]) (tr := [.reg [], dr 7 1 [.none, .none, (.pv add.pv), .none, .none, (.pv add1.pv)]]) (cj h1 (cj h2 True.intro)) (by kernel_rfl))
end interval_Point
namespace interval_Add
theorem e0 (a b cle cle1 : ARange) (add add1 : ARat) (h1 : Contract prg 89 [a.pv] cle.pv) (h2 : Contract prg 89 [b.pv] cle1.pv) (h3 : Contract prg 32 [cle.lo.pv, cle1.lo.pv] add.pv) (h4 : Contract prg 32 [cle.hi.pv, cle1.hi.pv] add1.pv) : Contract prg 133 [a.pv, b.pv] ((⟨add, add1⟩ : ARange).pv) :=
  Contract.ofL Tryz.func133 (by kernel_rfl) (L.done mixed tabOk (n := 78) (ns := [1, 1, 1, 1]) (tr := [.reg [], dr 4 2 [.none, (.pv cle.pv), .none, (.pv cle1.pv)], dr 11 1 [.none, .none, .none, .none, (.pv add.pv), .none, .none, .none, .none, (.pv add1.pv)]]) (cj h1 (cj h2 (cj h3 (cj h4 True.intro)))) (by kernel_rfl))
end interval_Add
namespace interval_Mul
@[reducible] noncomputable def fn : Func := Tryz.f134
noncomputable def atK1 : List Itm := focus [0, 2, 0, 2, 0, 2, 0, 2, 0, 0, 2, 0, 0] [.code (bodyOf fn)]
def inv1 (t_40 : Nat) (site_6 : ARange) (mul1 mul2 mul3 : ARat) : St := ⟨[(4, (.ptr 4 0)), (6, (.ptr 6 0)), (38, (.row 38 0 3 3)), (39, (eI 3)), (40, (eI (t_40 : Int)))], [(4, (.lit [(eB false), (.pv (.list [])), (.pv (.list [])), (eB false), (.pv (.list [])), (.pv (.list []))])), (6, (.lit [(eB site_6.lo.neg), (.pv (wordsPV site_6.lo.num)), (.pv (wordsPV site_6.lo.den)), (eB site_6.hi.neg), (.pv (wordsPV site_6.hi.num)), (.pv (wordsPV site_6.hi.den))])), (38, (.pure (([mul1, mul2, mul3] : List ARat).map ARat.cells).flatten))]⟩
@[reducible] noncomputable def Loop1 (t_40 : Nat) (site_6 : ARange) (mul1 mul2 mul3 : ARat) (r : PV) : Prop := L prg fn atK1 (inv1 t_40 site_6 mul1 mul2 mul3) r
theorem e0 (a b cle cle1 : ARange) (mul add mul1 mul2 mul3 : ARat) {r : PV} (h1 : Contract prg 89 [a.pv] cle.pv) (h2 : Contract prg 89 [b.pv] cle1.pv) (h3 : Contract prg 54 [cle.lo.pv, cle1.lo.pv] mul.pv) (h4 : Contract prg 32 [mul.pv, (⟨false, [], []⟩ : ARat).pv] add.pv) (h5 : Contract prg 54 [cle.lo.pv, cle1.hi.pv] mul1.pv) (h6 : Contract prg 54 [cle.hi.pv, cle1.lo.pv] mul2.pv) (h7 : Contract prg 54 [cle.hi.pv, cle1.hi.pv] mul3.pv) (hL : Loop1 0 (⟨mul, add⟩ : ARange) mul1 mul2 mul3 r) : Contract prg 134 [a.pv, b.pv] r :=
  Contract.ofL Tryz.func134 (by kernel_rfl) (L.go mixed tabOk (n := 99) (ns := [1, 1, 1, 1, 1, 1, 1]) (tr := [.reg [], dr 4 2 [.none, (.pv cle.pv), .none, (.pv cle1.pv)], .reg [.none, .none, .none, .none, (.pv mul.pv)], dr 6 1 [.none, .none, .none, (.pv add.pv)], dr 18 0 [.none, .none, .none, .none, (.pv mul1.pv), .none, .none, .none, .none, (.pv mul2.pv), .none, .none, .none, .none, (.pv mul3.pv)], .keep [4, 6, 38, 39, 40], .drop [5, 3, 2], .ord [4, 6, 38]]) (cj h1 (cj h2 (cj h3 (cj h4 (cj h5 (cj h6 (cj h7 True.intro))))))) (by kernel_rfl) hL)
theorem l10 (t_40 : Nat) (site_6 : ARange) (mul1 mul2 mul3 v minV maxV : ARat) {r : PV} (h1 : t_40 < 3) (h2 : [mul1, mul2, mul3][t_40]? = some v) (h3 : Contract prg 135 [site_6.lo.pv, v.pv] minV.pv) (h4 : Contract prg 136 [site_6.hi.pv, v.pv] maxV.pv) (h5 : (t_40 + 1) < 9223372036854775808) (hL : Loop1 (t_40 + 1) (⟨minV, maxV⟩ : ARange) mul1 mul2 mul3 r) : Loop1 t_40 site_6 mul1 mul2 mul3 r :=
  L.go mixed tabOk (n := 138) (ns := [1, 2, 2, 1, 1, 1]) (tr := [.auto, .reg [], .dec true, .reg [(.nat t_40), (.seg [(vB v.neg), (wordsPV v.num), (wordsPV v.den)])], dr 9 1 [.none, .none, .none, (.pv minV.pv), .none, .none, .none, (.pv maxV.pv)], .reg [(iI (((t_40 + 1) : Nat) : Int))], .keep [4, 6, 38, 39, 40], .drop [8]]) (cj (dltN_t h1) (cj (cj (Eq.refl (((t_40 : Nat) : Int) : Int)) h1) (cj (o_seg sz_ARat h2) (cj h3 (cj h4 (cj (bs_addN h5) True.intro)))))) (by kernel_rfl) hL
theorem l11 (t_40 : Nat) (site_6 : ARange) (mul1 mul2 mul3 : ARat) (h1 : 3 ≤ t_40) : Loop1 t_40 site_6 mul1 mul2 mul3 site_6.pv :=
  L.done mixed tabOk (n := 132) (ns := [1]) (tr := [.auto, .reg [], .dec false, .reg []]) (cj (dltN_f h1) True.intro) (by kernel_rfl)
end interval_Mul
namespace interval_Valid
theorem e0 (a : ARange) (val val1 : Bool) (cmp : Int) (h1 : Contract prg 50 [a.lo.pv] (vB val)) (h2 : val = true) (h3 : Contract prg 50 [a.hi.pv] (vB val1)) (h4 : val1 = true) (h5 : Contract prg 38 [a.lo.pv, a.hi.pv] (vI cmp)) : Contract prg 137 [a.pv] (vB (decide (cmp ≤ 0))) :=
  Contract.ofL Tryz.func137 (by kernel_rfl) (L.done mixed tabOk (n := 72) (ns := [1, 1, 1, 1, 1, 1, 1, 1, 1, 1, 1, 1, 1, 1]) (tr := [.reg [], .reg [.none, .none, (.pv (vB val)), .none, .none, .none, (.pv (vB val1)), (.dec true), .none, .none, .none, .none, .none, (.pv (vI cmp)), .none, (.dec true)]]) (cj h1 (cj h2 (cj h2 (cj h2 (cj h3 (cj h2 (cj h4 (cj h4 (cj h4 (cj h4 (cj h4 (cj h5 (cj h4 (cj h4 True.intro)))))))))))))) (by kernel_rfl))
theorem e1 (a : ARange) (val val1 : Bool) (h1 : Contract prg 50 [a.lo.pv] (vB val)) (h2 : val = true) (h3 : Contract prg 50 [a.hi.pv] (vB val1)) (h4 : val1 = false) : Contract prg 137 [a.pv] (vB false) :=
  Contract.ofL Tryz.func137 (by kernel_rfl) (L.done mixed tabOk (n := 72) (ns := [1, 1, 1, 1, 1, 1, 1, 1, 1, 1, 1, 1, 1]) (tr := [.reg [], .reg [.none, .none, (.pv (vB val)), .none, .none, .none, (.pv (vB val1)), (.dec true), .none, .skip, .skip, .skip, .skip, .skip, .skip, (.dec false)]]) (cj h1 (cj h2 (cj h2 (cj h2 (cj h3 (cj h2 (cj h4 (cj h4 (cj h4 (cj h4 (cj h4 (cj h4 (cj h4 True.intro))))))))))))) (by kernel_rfl))
theorem e2 (a : ARange) (val : Bool) (h1 : Contract prg 50 [a.lo.pv] (vB val)) (h2 : val = false) : Contract prg 137 [a.pv] (vB false) :=
  Contract.ofL Tryz.func137 (by kernel_rfl) (L.done mixed tabOk (n := 72) (ns := [1, 1, 1, 1, 1, 1, 1, 1, 1, 1, 1]) (tr := [.reg [], .reg [.none, .none, (.pv (vB val)), .none, .skip, .skip, .skip, (.dec false), .none, .skip, .skip, .skip, .skip, .skip, .skip]]) (cj h1 (cj h2 (cj h2 (cj h2 (cj h2 (cj (Eq.refl false) (cj (Eq.refl false) (cj (Eq.refl false) (cj (Eq.refl false) (cj (Eq.refl false) (cj (Eq.refl false) True.intro))))))))))) (by kernel_rfl))
end interval_Valid
namespace linkworkref03_Add
theorem e0 (a b giv giv1 : ARange) (add add1 : ARat) (spa : ARange) (h1 : Contract prg 142 [a.pv] giv.pv) (h2 : Contract prg 142 [b.pv] giv1.pv) (h3 : Contract prg 105 [giv.lo.pv, giv1.lo.pv] add.pv) (h4 : Contract prg 105 [giv.hi.pv, giv1.hi.pv] add1.pv) (h5 : Contract prg 143 [(polyPV [add, add1])] spa.pv) : Contract prg 139 [a.pv, b.pv] spa.pv :=
  Contract.ofL Tryz.func139 (by kernel_rfl) (L.done mixed tabOk (n := 78) (ns := [1, 1, 1, 1, 3, 1]) (tr := [.reg [], dr 4 2 [.none, (.pv giv.pv), .none, (.pv giv1.pv)], dr 12 1 [.none, .none, .none, .none, (.pv add.pv), .none, .none, .none, .none, (.pv add1.pv), (.slc 0 0 (([add, add1] : List ARat).map ARat.cells)), (.pv spa.pv)]]) (cj h1 (cj h2 (cj h3 (cj h4 (cj (o_bs sz_ARat ([add, add1] : List ARat)) (cj h5 True.intro)))))) (by kernel_rfl))
end linkworkref03_Add
namespace linkworkref03_Mul
theorem e0 (a b giv giv1 : ARange) (mul mul1 mul2 mul3 : ARat) (spa : ARange) (h1 : Contract prg 142 [a.pv] giv.pv) (h2 : Contract prg 142 [b.pv] giv1.pv) (h3 : Contract prg 57 [giv.lo.pv, giv1.lo.pv] mul.pv) (h4 : Contract prg 57 [giv.lo.pv, giv1.hi.pv] mul1.pv) (h5 : Contract prg 57 [giv.hi.pv, giv1.lo.pv] mul2.pv) (h6 : Contract prg 57 [giv.hi.pv, giv1.hi.pv] mul3.pv) (h7 : Contract prg 143 [(polyPV [mul, mul1, mul2, mul3])] spa.pv) : Contract prg 140 [a.pv, b.pv] spa.pv :=
  Contract.ofL Tryz.func140 (by kernel_rfl) (L.done mixed tabOk (n := 78) (ns := [1, 1, 1, 1, 1, 1, 3, 1]) (tr := [.reg [], dr 4 2 [.none, (.pv giv.pv), .none, (.pv giv1.pv)], dr 22 1 [.none, .none, .none, .none, (.pv mul.pv), .none, .none, .none, .none, (.pv mul1.pv), .none, .none, .none, .none, (.pv mul2.pv), .none, .none, .none, .none, (.pv mul3.pv), (.slc 0 0 (([mul, mul1, mul2, mul3] : List ARat).map ARat.cells)), (.pv spa.pv)]]) (cj h1 (cj h2 (cj h3 (cj h4 (cj h5 (cj h6 (cj (o_bs sz_ARat ([mul, mul1, mul2, mul3] : List ARat)) (cj h7 True.intro)))))))) (by kernel_rfl))
end linkworkref03_Mul
namespace linkworkref03_Point
theorem e0 (x : ARat) (spa : ARange) (h1 : Contract prg 143 [(polyPV [x])] spa.pv) : Contract prg 141 [x.pv] spa.pv :=
  Contract.ofL Tryz.func141 (by kernel_rfl) (L.done mixed tabOk (n := 72) (ns := [3, 1]) (tr := [.reg [], .reg [.none, (.slc 0 0 (([x] : List ARat).map ARat.cells)), (.pv spa.pv)]]) (cj (o_bs sz_ARat ([x] : List ARat)) (cj h1 True.intro)) (by kernel_rfl))
end linkworkref03_Point
namespace linkworkref03_given
theorem e0 (a : ARange) (val : Bool) (h1 : Contract prg 167 [a.pv] (vB val)) (h2 : val = false) : Contract prg 142 [a.pv] ((⟨(⟨false, [], []⟩ : ARat), (⟨false, [], []⟩ : ARat)⟩ : ARange).pv) :=
  Contract.ofL Tryz.func142 (by kernel_rfl) (L.done mixed tabOk (n := 84) (ns := [1, 1]) (tr := [.reg [], .reg [.none, (.pv (vB val))], .dec true, .reg []]) (cj h1 (cj (bnot_t h2) True.intro)) (by kernel_rfl))
theorem e1 (a : ARange) (val : Bool) (h1 : Contract prg 167 [a.pv] (vB val)) (h2 : val = true) : Contract prg 142 [a.pv] a.pv :=
  Contract.ofL Tryz.func142 (by kernel_rfl) (L.done mixed tabOk (n := 87) (ns := [1, 1]) (tr := [.reg [], .reg [.none, (.pv (vB val))], .dec false, .reg []]) (cj h1 (cj (bnot_f h2) True.intro)) (by kernel_rfl))
end linkworkref03_given
namespace linkworkref03_span
@[reducible] noncomputable def fn : Func := Tryz.f143
noncomputable def atK1 : List Itm := focus [0, 2, 0, 2, 0, 0, 2, 0, 0] [.code (bodyOf fn)]
def inv1 (l : List ARat) (t_19 : Nat) (site_3 : ARange) : St := ⟨[(2, (.ptr 2 0)), (3, (.ptr 3 0)), (17, (.pv (polyPV l))), (18, (eI (l.length : Int))), (19, (eI (t_19 : Int)))], [(2, (.lit [(eB false), (.pv (.list [])), (.pv (.list [])), (eB false), (.pv (.list [])), (.pv (.list []))])), (3, (.lit [(eB site_3.lo.neg), (.pv (wordsPV site_3.lo.num)), (.pv (wordsPV site_3.lo.den)), (eB site_3.hi.neg), (.pv (wordsPV site_3.hi.num)), (.pv (wordsPV site_3.hi.den))]))]⟩
@[reducible] noncomputable def Loop1 (l : List ARat) (t_19 : Nat) (site_3 : ARange) (r : PV) : Prop := L prg fn atK1 (inv1 l t_19 site_3) r
theorem e0 (l : List ARat) (v add add1 : ARat) {r : PV} (h1 : l[0]? = some v) (h2 : Contract prg 105 [v.pv, (⟨false, [], []⟩ : ARat).pv] add.pv) (h3 : Contract prg 105 [v.pv, (⟨false, [], []⟩ : ARat).pv] add1.pv) (hL : Loop1 l 0 (⟨add, add1⟩ : ARange) r) : Contract prg 143 [(polyPV l)] r :=
  Contract.ofL Tryz.func143 (by kernel_rfl) (L.go mixed tabOk (n := 87) (ns := [3, 1, 3, 1, 1]) (tr := [.reg [], dr 12 1 [.none, (.row 0 (ARat.cells v)), .none, .none, (.pv add.pv), .none, (.row 0 (ARat.cells v)), .none, .none, (.pv add1.pv)], .reg [.none, (iI (l.length : Int))], .keep [2, 3, 17, 18, 19], .ord [2, 3]]) (cj (o_at ARat.cells (Eq.refl (0 : Int)) h1) (cj h2 (cj (o_at ARat.cells (Eq.refl (0 : Int)) h1) (cj h3 (cj (o_len ARat.cells l) True.intro))))) (by kernel_rfl) hL)
theorem l10 (l : List ARat) (t_19 : Nat) (site_3 : ARange) (v minV maxV : ARat) {r : PV} (h1 : t_19 < l.length) (h2 : l[t_19]? = some v) (h3 : Contract prg 168 [site_3.lo.pv, v.pv] minV.pv) (h4 : Contract prg 169 [site_3.hi.pv, v.pv] maxV.pv) (h5 : (t_19 + 1) < 9223372036854775808) (hL : Loop1 l (t_19 + 1) (⟨minV, maxV⟩ : ARange) r) : Loop1 l t_19 site_3 r :=
  L.go mixed tabOk (n := 126) (ns := [1, 3, 1, 1, 1]) (tr := [.auto, .reg [], .dec true, .reg [(.row t_19 (ARat.cells v))], dr 11 1 [.none, .none, .none, (.pv minV.pv), .none, .none, .none, (.pv maxV.pv)], .reg [(iI (((t_19 + 1) : Nat) : Int))], .keep [2, 3, 17, 18, 19], .drop [5]]) (cj (dltN_t h1) (cj (o_at ARat.cells (Eq.refl (((t_19 : Nat) : Int) : Int)) h2) (cj h3 (cj h4 (cj (bs_addN h5) True.intro))))) (by kernel_rfl) hL
theorem l11 (l : List ARat) (t_19 : Nat) (site_3 : ARange) (h1 : l.length ≤ t_19) : Loop1 l t_19 site_3 site_3.pv :=
  L.done mixed tabOk (n := 120) (ns := [1]) (tr := [.auto, .reg [], .dec false, .reg []]) (cj (dltN_f h1) True.intro) (by kernel_rfl)
end linkworkref03_span
namespace linkworkref03_Valid
theorem e0 (a : ARange) (val val1 : Bool) (cmp : Int) (h1 : Contract prg 28 [a.lo.pv] (vB val)) (h2 : val = true) (h3 : Contract prg 28 [a.hi.pv] (vB val1)) (h4 : val1 = true) (h5 : Contract prg 68 [a.lo.pv, a.hi.pv] (vI cmp)) : Contract prg 167 [a.pv] (vB (decide (cmp ≤ 0))) :=
  Contract.ofL Tryz.func167 (by kernel_rfl) (L.done mixed tabOk (n := 72) (ns := [1, 1, 1, 1, 1, 1, 1, 1, 1, 1, 1, 1, 1, 1]) (tr := [.reg [], .reg [.none, .none, (.pv (vB val)), .none, .none, .none, (.pv (vB val1)), (.dec true), .none, .none, .none, .none, .none, (.pv (vI cmp)), .none, (.dec true)]]) (cj h1 (cj h2 (cj h2 (cj h2 (cj h3 (cj h2 (cj h4 (cj h4 (cj h4 (cj h4 (cj h4 (cj h5 (cj h4 (cj h4 True.intro)))))))))))))) (by kernel_rfl))
theorem e1 (a : ARange) (val val1 : Bool) (h1 : Contract prg 28 [a.lo.pv] (vB val)) (h2 : val = true) (h3 : Contract prg 28 [a.hi.pv] (vB val1)) (h4 : val1 = false) : Contract prg 167 [a.pv] (vB false) :=
  Contract.ofL Tryz.func167 (by kernel_rfl) (L.done mixed tabOk (n := 72) (ns := [1, 1, 1, 1, 1, 1, 1, 1, 1, 1, 1, 1, 1]) (tr := [.reg [], .reg [.none, .none, (.pv (vB val)), .none, .none, .none, (.pv (vB val1)), (.dec true), .none, .skip, .skip, .skip, .skip, .skip, .skip, (.dec false)]]) (cj h1 (cj h2 (cj h2 (cj h2 (cj h3 (cj h2 (cj h4 (cj h4 (cj h4 (cj h4 (cj h4 (cj h4 (cj h4 True.intro))))))))))))) (by kernel_rfl))
theorem e2 (a : ARange) (val : Bool) (h1 : Contract prg 28 [a.lo.pv] (vB val)) (h2 : val = false) : Contract prg 167 [a.pv] (vB false) :=
  Contract.ofL Tryz.func167 (by kernel_rfl) (L.done mixed tabOk (n := 72) (ns := [1, 1, 1, 1, 1, 1, 1, 1, 1, 1, 1]) (tr := [.reg [], .reg [.none, .none, (.pv (vB val)), .none, .skip, .skip, .skip, (.dec false), .none, .skip, .skip, .skip, .skip, .skip, .skip]]) (cj h1 (cj h2 (cj h2 (cj h2 (cj h2 (cj (Eq.refl false) (cj (Eq.refl false) (cj (Eq.refl false) (cj (Eq.refl false) (cj (Eq.refl false) (cj (Eq.refl false) True.intro))))))))))) (by kernel_rfl))
end linkworkref03_Valid
end Go.Proofs.YtcgbmnkgmepikaaGreat.Sym.Path
namespace Go.Proofs.YtcgbmnkgmepikaaGreat.Sym
open Go Path CInt
set_option linter.unusedVariables false
def eqR (a b : ARat) : Bool := decide (a.neg = b.neg) && (decide (a.num = b.num) && decide (a.den = b.den))
theorem eqR_iff {a b : ARat} : eqR a b = true ↔ a = b := by
  obtain ⟨n, m, d⟩ := a
  obtain ⟨n', m', d'⟩ := b
  unfold eqR
  simp only [Bool.and_eq_true, decide_eq_true_eq, ARat.mk.injEq]
theorem eqR_self (a : ARat) : eqR a a = true := eqR_iff.2 rfl
def eqRs : List ARat → List ARat → Bool
  | [], [] => true
  | a :: r, b :: s => eqR a b && eqRs r s
  | _, _ => false
theorem eqRs_iff : ∀ {p q : List ARat}, eqRs p q = true ↔ p = q
  | [], [] => by simp [eqRs]
  | a :: r, b :: s => by
    show (eqR a b && eqRs r s) = true ↔ _
    rw [Bool.and_eq_true, eqR_iff, eqRs_iff, List.cons.injEq]
  | [], b :: s => by simp [eqRs]
  | a :: r, [] => by simp [eqRs]
theorem eqRs_self (p : List ARat) : eqRs p p = true := eqRs_iff.2 rfl
theorem eqRs_ne {p q : List ARat} (h : p ≠ q) : eqRs p q = false := by
  cases hb : eqRs p q with
  | true => exact absurd (eqRs_iff.1 hb) h
  | false => rfl
namespace CBa
theorem Words (a b : Sym.Words) (hl : a.length < 9223372036854775807) : Contract prg 62 [wordsPV a, wordsPV b] (vB (decide (a = b))) := by
  by_cases h : a.length = b.length
  · have loop : ∀ (j t : Nat), a.length - t = j → t ≤ a.length → a.take t = b.take t → linkworkbase_Words.Loop1 a b t (vB (decide (a = b))) := by
      intro j
      induction j with
      | zero =>
        intro t hj ht he
        rw [List.take_of_length_le (by omega), List.take_of_length_le (by omega)] at he
        rw [decide_eq_true he]
        exact linkworkbase_Words.l12 a b t (by omega)
      | succ j ih =>
        intro t hj ht he
        obtain ⟨v, hv⟩ : ∃ v, a[t]? = some v := ⟨_, List.getElem?_eq_getElem (by omega)⟩
        obtain ⟨w, hw⟩ : ∃ w, b[t]? = some w := ⟨_, List.getElem?_eq_getElem (by omega)⟩
        by_cases h0 : v.toNat = w.toNat
        · exact linkworkbase_Words.l11 a b t v w (by omega) hv hw h0 (by omega) (ih (t + 1) (by omega) (by omega) (by rw [List.take_add_one, List.take_add_one, he, hv, hw, w_eq h0]))
        · have hne : a ≠ b := by
            intro e; subst e
            rw [hv] at hw; injection hw with hw
            exact h0 (by rw [hw])
          rw [decide_eq_false hne]
          exact linkworkbase_Words.l10 a b t v w (by omega) hv hw h0
    exact linkworkbase_Words.e1 a b h (loop _ 0 rfl (by omega) rfl)
  · rw [decide_eq_false (fun e => h (by rw [e]))]
    exact linkworkbase_Words.e0 a b h
theorem Rat (a b : ARat) (h1 : a.num.length < 9223372036854775807) (h2 : a.den.length < 9223372036854775807) : Contract prg 17 [a.pv, b.pv] (vB (eqR a b)) := by
  unfold eqR
  by_cases hn : a.neg = b.neg
  · rw [decide_eq_true hn, Bool.true_and]
    have w1 := Words a.num b.num h1
    have w2 := Words a.den b.den h2
    cases hw : decide (a.num = b.num) with
    | true => rw [Bool.true_and]; rw [hw] at w1; exact linkworkbase_Rat.e0 a b _ _ hn w1 rfl w2
    | false => rw [Bool.false_and]; rw [hw] at w1; exact linkworkbase_Rat.e1 a b _ hn w1 rfl
  · rw [decide_eq_false hn, Bool.false_and]
    exact linkworkbase_Rat.e2 a b hn
theorem Rats (p q : List ARat) (hl : p.length < 9223372036854775807) (hf : ∀ a ∈ p, a.num.length < 9223372036854775807 ∧ a.den.length < 9223372036854775807) : Contract prg 49 [polyPV p, polyPV q] (vB (eqRs p q)) := by
  by_cases h : p.length = q.length
  · have loop : ∀ (j t : Nat), p.length - t = j → t ≤ p.length → p.take t = q.take t → linkworkbase_Rats.Loop1 p q t (vB (eqRs p q)) := by
      intro j
      induction j with
      | zero =>
        intro t hj ht he
        rw [List.take_of_length_le (by omega), List.take_of_length_le (by omega)] at he
        rw [eqRs_iff.2 he]
        exact linkworkbase_Rats.l12 p q t (by omega)
      | succ j ih =>
        intro t hj ht he
        obtain ⟨v, hv⟩ : ∃ v, p[t]? = some v := ⟨_, List.getElem?_eq_getElem (by omega)⟩
        obtain ⟨w, hw⟩ : ∃ w, q[t]? = some w := ⟨_, List.getElem?_eq_getElem (by omega)⟩
        have hvf := hf v (List.mem_of_getElem? hv)
        have hr := Rat v w hvf.1 hvf.2
        cases h0 : eqR v w with
        | true =>
          rw [h0] at hr
          exact linkworkbase_Rats.l11 p q t v w _ (by omega) hv hw hr rfl (by omega) (ih (t + 1) (by omega) (by omega) (by rw [List.take_add_one, List.take_add_one, he, hv, hw, eqR_iff.1 h0]))
        | false =>
          have hne : p ≠ q := by
            intro e; subst e
            rw [hv] at hw; injection hw with hw
            rw [hw, eqR_self] at h0; cases h0
          rw [eqRs_ne hne]
          rw [h0] at hr
          exact linkworkbase_Rats.l10 p q t v w _ (by omega) hv hw hr rfl
    exact linkworkbase_Rats.e1 p q h (loop _ 0 rfl (by omega) rfl)
  · rw [eqRs_ne (fun e => h (by rw [e]))]
    exact linkworkbase_Rats.e0 p q h
theorem Num (e : Option Int) : Contract prg 14 [errPV e] (vI (e.getD 0)) := by
  cases e with
  | none => exact linkworkbase_Num.e0
  | some n => exact linkworkbase_Num.e1 n
theorem Is (e : Option Int) (code : Int) : Contract prg 29 [errPV e, vI code] (vB (e.getD 0 == code)) := linkworkbase_Is.e0 e code _ (Num e)
end CBa
end Go.Proofs.YtcgbmnkgmepikaaGreat.Sym
namespace Go.Proofs.YtcgbmnkgmepikaaGreat.Sym
open Go Path CInt
set_option linter.unusedVariables false
def badB (p : Option Rat) (v : Rat) : Bool := match p with
  | none => decide (v ≠ 0)
  | some q => decide (v ≤ q)
def outB (b : ARat) : Bool := !b.valid || (decide (b.val < 0) || decide (1 ≤ b.val))
def chkB : Option Rat → List ARat → Int
  | _, [] => 0
  | p, b :: r => bif outB b then 3 else bif badB p b.val then 12 else chkB (some b.val) r
def chkP : List (List ARat) → Int
  | [] => 0
  | p :: r => bif decide (chk p ≠ 0) then chk p else bif Nat.blt 9 p.length then 4 else chkP r
def chkR (p : Option Rat) (bs : List ARat) (ps : List (List ARat)) : Int := bif decide (chkB p bs ≠ 0) then chkB p bs else chkP ps
def chkLaw (l : ALaw) : Int := if l.breaks.length = 0 ∨ l.breaks.length ≠ l.pieces.length then 10 else if 16 < l.breaks.length then 4 else chkR none l.breaks l.pieces
abbrev FitW (k : Nat) (l : ALaw) : Prop := FitP k l.breaks ∧ ∀ p ∈ l.pieces, FitP k p
theorem chkR_stop {p : Option Rat} {bs : List ARat} {ps : List (List ARat)} {n : Int} (h : chkB p bs = n) (h0 : n ≠ 0) : chkR p bs ps = n := by
  unfold chkR; rw [h, decide_eq_true h0]; rfl
theorem chkR_nil {p : Option Rat} {ps : List (List ARat)} : chkR p [] ps = chkP ps := rfl
theorem chkR_cons {p : Option Rat} {b : ARat} {r : List ARat} {ps : List (List ARat)} (h1 : outB b = false) (h2 : badB p b.val = false) : chkR p (b :: r) ps = chkR (some b.val) r ps := by
  unfold chkR
  rw [show chkB p (b :: r) = chkB (some b.val) r from by rw [chkB, h1, h2]; rfl]
theorem chkB_out {p : Option Rat} {b : ARat} {r : List ARat} (h1 : outB b = true) : chkB p (b :: r) = 3 := by rw [chkB, h1]; rfl
theorem chkB_bad {p : Option Rat} {b : ARat} {r : List ARat} (h1 : outB b = false) (h2 : badB p b.val = true) : chkB p (b :: r) = 12 := by rw [chkB, h1, h2]; rfl
theorem outB_inv {b : ARat} (h : b.valid = false) : outB b = true := by unfold outB; rw [h]; rfl
theorem outB_lt {b : ARat} (h : b.val < 0) : outB b = true := by unfold outB; rw [decide_eq_true h]; simp
theorem outB_ge {b : ARat} (h : 1 ≤ b.val) : outB b = true := by unfold outB; rw [decide_eq_true h]; simp
theorem outB_no {b : ARat} (h : b.valid = true) (h1 : ¬ b.val < 0) (h2 : ¬ 1 ≤ b.val) : outB b = false := by
  unfold outB; rw [h, decide_eq_false h1, decide_eq_false h2]; rfl
theorem outB_parts {b : ARat} (h : outB b = false) : b.valid = true ∧ 0 ≤ b.val ∧ b.val < 1 := by
  unfold outB at h
  rw [Bool.or_eq_false_iff, Bool.or_eq_false_iff] at h
  obtain ⟨h1, h2, h3⟩ := h
  have h2 := of_decide_eq_false h2
  have h3 := of_decide_eq_false h3
  exact ⟨by simpa using h1, by grind, by grind⟩
theorem chkB_asc : ∀ (bs : List ARat) (p : Option Rat), chkB p bs = 0 → bs.all ARat.valid = true ∧ (∀ b ∈ bs, 0 ≤ b.val ∧ b.val < 1) ∧ (vals bs).Pairwise (· < ·) ∧ (∀ q, p = some q → ∀ b ∈ bs, q < b.val)
  | [], p, _ => ⟨rfl, (fun b h => by cases h), List.Pairwise.nil, (fun q _ b h => by cases h)⟩
  | b :: r, p, h => by
    cases h1 : outB b with
    | true => rw [chkB_out h1] at h; cases h
    | false =>
      cases h2 : badB p b.val with
      | true => rw [chkB_bad h1 h2] at h; cases h
      | false =>
        rw [show chkB p (b :: r) = chkB (some b.val) r from by rw [chkB, h1, h2]; rfl] at h
        obtain ⟨g1, g2, g3, g4⟩ := chkB_asc r _ h
        obtain ⟨o1, o2, o3⟩ := outB_parts h1
        refine ⟨by rw [List.all_cons, o1, g1]; rfl, ?_, ?_, ?_⟩
        · intro c hc
          rcases List.mem_cons.1 hc with e | hc
          · rw [e]; exact ⟨o2, o3⟩
          · exact g2 c hc
        · refine List.Pairwise.cons ?_ g3
          intro c hc
          obtain ⟨a, ha, rfl⟩ := List.mem_map.1 hc
          exact g4 _ rfl a ha
        · intro q hq c hc
          subst hq
          have hb : q < b.val := by
            have := of_decide_eq_false h2
            grind
          rcases List.mem_cons.1 hc with e | hc
          · rw [e]; exact hb
          · have := g4 _ rfl c hc
            grind
theorem chkP_all : ∀ (ps : List (List ARat)), chkP ps = 0 → ∀ p ∈ ps, chk p = 0 ∧ p.length ≤ 9
  | [], _ => fun p h => by cases h
  | a :: r, h => by
    rw [chkP] at h
    by_cases h1 : chk a = 0
    · rw [decide_eq_false (by simpa using h1), cond_false] at h
      cases h2 : Nat.blt 9 a.length with
      | true => rw [h2] at h; cases h
      | false =>
        rw [h2, cond_false] at h
        have h3 : ¬ 9 < a.length := by
          intro h3
          have : Nat.blt 9 a.length = true := by simpa [Nat.blt_eq] using h3
          rw [h2] at this; cases this
        intro p hp
        rcases List.mem_cons.1 hp with e | hp
        · rw [e]; exact ⟨h1, by omega⟩
        · exact chkP_all r h p hp
    · rw [decide_eq_true h1, cond_true] at h
      exact absurd h h1
structure Good (l : ALaw) : Prop where
  n0 : l.breaks.length ≠ 0
  len : l.breaks.length = l.pieces.length
  le : l.breaks.length ≤ 16
  valid : l.breaks.all ARat.valid = true
  unit : ∀ b ∈ l.breaks, 0 ≤ b.val ∧ b.val < 1
  asc : (vals l.breaks).Pairwise (· < ·)
  first : ∀ v, l.breaks[0]? = some v → v.val = 0
  ps : ∀ p ∈ l.pieces, chk p = 0 ∧ p.length ≤ 9
theorem good_of {l : ALaw} (h : chkLaw l = 0) : Good l := by
  unfold chkLaw at h
  split at h
  · cases h
  · split at h
    · cases h
    · rename_i h1 h2
      unfold chkR at h
      by_cases hb : chkB none l.breaks = 0
      · rw [hb] at h
        have h : chkP l.pieces = 0 := h
        obtain ⟨g1, g2, g3, g4⟩ := chkB_asc _ _ hb
        refine ⟨by omega, by omega, by omega, g1, g2, g3, ?_, chkP_all _ h⟩
        intro v hv
        cases hl : l.breaks with
        | nil => rw [hl] at hv; cases hv
        | cons b r =>
          rw [hl] at hv hb
          have e : b = v := by simpa using hv
          subst e
          cases o : outB b with
          | true => rw [chkB_out o] at hb; cases hb
          | false =>
            cases o2 : badB none b.val with
            | true => rw [chkB_bad o o2] at hb; cases hb
            | false => have := of_decide_eq_false o2; simpa using this
      · rw [decide_eq_true hb, cond_true] at h
        exact absurd h hb
def frac (x : Rat) : Rat := x - (x.floor : Rat)
theorem ht_frac {x : Rat} {k : Nat} (h : ht x ≤ k) : ht (frac x) ≤ 2 * k + 2 := by
  have h1 := ht_sub x (x.floor : Rat)
  have h2 := ht_int x.floor
  have h3 := wl_floor x
  unfold frac
  omega
def pieceF : List Rat → Rat → Nat
  | [], _ => 0
  | b :: r, x => bif decide (b ≤ x) then pieceF r x + 1 else 0
def pieceL (bs : List Rat) (x : Rat) : Nat := pieceF (bs.drop 1) x
theorem pieceF_eq : ∀ (r : List Rat) (x : Rat) (i : Nat), (∀ j b, j < i → r[j]? = some b → b ≤ x) → (∀ b, r[i]? = some b → x < b) → i ≤ r.length → pieceF r x = i
  | [], x, i, _, _, h => by have : i = 0 := by simpa using h
                            subst this; rfl
  | b :: r, x, 0, _, h, _ => by
    have := h b rfl
    rw [pieceF, decide_eq_false (by grind)]; rfl
  | b :: r, x, i + 1, h1, h2, h3 => by
    have := h1 0 b (by omega) rfl
    rw [pieceF, decide_eq_true this, cond_true, pieceF_eq r x i (fun j c hj hc => h1 (j + 1) c (by omega) hc) (fun c hc => h2 c hc) (by simpa using h3)]
theorem pieceF_le : ∀ (r : List Rat) (x : Rat), pieceF r x ≤ r.length
  | [], _ => by simp [pieceF]
  | b :: r, x => by
    rw [pieceF]
    have := pieceF_le r x
    cases decide (b ≤ x) <;> simp <;> omega
theorem pieceL_lt {bs : List Rat} (h : bs.length ≠ 0) (x : Rat) : pieceL bs x < bs.length := by
  have := pieceF_le (bs.drop 1) x
  unfold pieceL
  rw [List.length_drop] at this
  omega
def atW (l : ALaw) (x : Rat) : Rat := evalL (vals (l.pieces.getD (pieceL (vals l.breaks) (frac x)) [])) (frac x - (l.breaks.getD (pieceL (vals l.breaks) (frac x)) ⟨false, [], []⟩).val)
def endW (l : ALaw) (i : Nat) : Rat := match l.breaks[i + 1]? with
  | some v => v.val
  | none => (1 : Int)
def deriveW (l : ALaw) : ALaw := ⟨(vals l.breaks).map mkR, l.pieces.map (fun p => (deriveL (vals p)).map mkR)⟩
def riseG (s u : Rat) : Rat → List Int → List Rat
  | _, [] => []
  | w, n :: r => s * ((n : Rat) * w) :: riseG s u (w * u) r
def riseN (degree : Int) : List Int := if degree = 1 then [0, 1] else if degree = 3 then [0, 0, 3, -2] else [0, 0, 0, 10, -15, 6]
def riseL (len x y : Rat) (degree : Int) : List Rat := trimL (x :: (riseG (y - x) (1 / len) (1 / len) ((riseN degree).drop 1)))
def riseC (len x y : ARat) (degree : Int) : Int := bif !len.valid || (decide (len.val ≤ 0) || (!x.valid || !y.valid)) then 3 else if degree = 1 ∨ degree = 3 ∨ degree = 5 then 0 else 7
end Go.Proofs.YtcgbmnkgmepikaaGreat.Sym
namespace Go.Proofs.YtcgbmnkgmepikaaGreat.Sym.Path
open Go
set_option maxRecDepth 20000
set_option linter.unusedVariables false
namespace law_Rise
@[reducible] noncomputable def fn : Func := Tryz.f12
noncomputable def atK1 : List Itm := focus [0, 2, 0, 0, 2, 1, 2, 0, 2, 0, 0, 2, 0, 0, 2, 0, 2, 2, 0, 2, 0, 2, 0, 0, 2, 1, 2, 0, 2, 0, 2, 0, 0, 2, 0, 0] [.code (bodyOf fn)]
def inv1 (site_81 : List ARat) (site_42 : List Int) (t_63 t_64 : Nat) (fromV sub div site_14 : ARat) : St := ⟨[(5, (.ptr 5 0)), (11, (.ptr 11 0)), (12, (.ptr 12 0)), (14, (.ptr 14 0)), (15, (.row 81 0 site_81.length 3)), (62, (.row 42 0 site_42.length 1)), (63, (eI (t_63 : Int))), (64, (eI (t_64 : Int)))], [(5, (.lit [(eB fromV.neg), (.pv (wordsPV fromV.num)), (.pv (wordsPV fromV.den))])), (11, (.lit [(eB sub.neg), (.pv (wordsPV sub.num)), (.pv (wordsPV sub.den))])), (12, (.lit [(eB div.neg), (.pv (wordsPV div.num)), (.pv (wordsPV div.den))])), (14, (.lit [(eB site_14.neg), (.pv (wordsPV site_14.num)), (.pv (wordsPV site_14.den))])), (42, (.pure ((site_42 : List Int).map intCell).flatten)), (81, (.pure ((site_81 : List ARat).map ARat.cells).flatten))]⟩
@[reducible] noncomputable def Loop1 (site_81 : List ARat) (site_42 : List Int) (t_63 t_64 : Nat) (fromV sub div site_14 : ARat) (r : PV) : Prop := L prg fn atK1 (inv1 site_81 site_42 t_63 t_64 fromV sub div site_14) r
theorem e4 (length fromV toV : ARat) (degree : Int) (val : Bool) (sig : Int) (val1 val2 : Bool) (sub one div one1 : ARat) {r : PV} (h1 : Contract prg 50 [length.pv] (vB val)) (h2 : val = true) (h3 : Contract prg 39 [length.pv] (vI sig)) (h4 : 0 < sig) (h5 : Contract prg 50 [fromV.pv] (vB val1)) (h6 : val1 = true) (h7 : Contract prg 50 [toV.pv] (vB val2)) (h8 : val2 = true) (h9 : degree = 1) (h10 : Contract prg 51 [toV.pv, fromV.pv] sub.pv) (h11 : Contract prg 53 [] one.pv) (h12 : Contract prg 52 [one.pv, length.pv] (.tup [div.pv, .nilI])) (h13 : Contract prg 53 [] one1.pv) (hL : Loop1 [] [0, 1] 2 0 fromV sub div one1 r) : Contract prg 12 [length.pv, fromV.pv, toV.pv, (vI degree)] r :=
  Contract.ofL Tryz.func12 (by kernel_rfl) (L.go mixed tabOk (n := 168) (ns := [1, 1, 1, 1, 1, 1, 1, 1, 1, 1, 1, 1, 1, 1, 1, 1, 1, 1, 1, 1, 1, 1]) (tr := [.reg [], .reg [.none, (.pv (vB val)), .none, .none, .none, (.pv (vI sig)), .none, (.dec false), .none, .none, (.pv (vB val1)), .none, (.dec false), .none, .none, (.pv (vB val2)), .none, (.dec false)], .dec false, .reg [], .reg [], .reg [], .dec true, .reg [], .reg [.none, .none, (.pv sub.pv)], dr 8 1 [(.pv one.pv), .none, (.pv (.tup [div.pv, .nilI]))], .reg [], .auto, .reg [(.pv one1.pv)], .reg [.nil], .adopt 15 81 3, .reg [], .keep [5, 11, 12, 14, 15, 62, 63, 64], .drop [6, 4], .ord [5, 11, 12, 14, 42, 81]]) (cj h1 (cj (bnot_f h2) (cj (bnot_f h2) (cj h3 (cj (bnot_f h2) (cj (bnot_f h2) (cj (dle_f h4) (cj (dle_f h4) (cj h5 (cj (dle_f h4) (cj (dle_f h4) (cj (bnot_f h6) (cj (bnot_f h6) (cj h7 (cj (bnot_f h6) (cj (bnot_f h6) (cj (bnot_f h8) (cj (deq_t h9) (cj h10 (cj h11 (cj h12 (cj h13 True.intro)))))))))))))))))))))) (by kernel_rfl) hL)
theorem e6 (length fromV toV : ARat) (degree : Int) (val : Bool) (sig : Int) (val1 val2 : Bool) (sub one div one1 : ARat) {r : PV} (h1 : Contract prg 50 [length.pv] (vB val)) (h2 : val = true) (h3 : Contract prg 39 [length.pv] (vI sig)) (h4 : 0 < sig) (h5 : Contract prg 50 [fromV.pv] (vB val1)) (h6 : val1 = true) (h7 : Contract prg 50 [toV.pv] (vB val2)) (h8 : val2 = true) (h9 : degree ≠ 1) (h10 : degree = 3) (h11 : Contract prg 51 [toV.pv, fromV.pv] sub.pv) (h12 : Contract prg 53 [] one.pv) (h13 : Contract prg 52 [one.pv, length.pv] (.tup [div.pv, .nilI])) (h14 : Contract prg 53 [] one1.pv) (hL : Loop1 [] [0, 0, 3, (-2)] 4 0 fromV sub div one1 r) : Contract prg 12 [length.pv, fromV.pv, toV.pv, (vI degree)] r :=
  Contract.ofL Tryz.func12 (by kernel_rfl) (L.go mixed tabOk (n := 177) (ns := [1, 1, 1, 1, 1, 1, 1, 1, 1, 1, 1, 1, 1, 1, 1, 1, 1, 1, 1, 1, 1, 1, 1]) (tr := [.reg [], .reg [.none, (.pv (vB val)), .none, .none, .none, (.pv (vI sig)), .none, (.dec false), .none, .none, (.pv (vB val1)), .none, (.dec false), .none, .none, (.pv (vB val2)), .none, (.dec false)], .dec false, .reg [], .reg [], .reg [], .dec false, .reg [], .dec true, .reg [], .reg [.none, .none, (.pv sub.pv)], dr 8 1 [(.pv one.pv), .none, (.pv (.tup [div.pv, .nilI]))], .reg [], .auto, .reg [(.pv one1.pv)], .reg [.nil], .adopt 15 81 3, .reg [], .keep [5, 11, 12, 14, 15, 62, 63, 64], .drop [6, 4], .ren 45 42, .ord [5, 11, 12, 14, 42, 81]]) (cj h1 (cj (bnot_f h2) (cj (bnot_f h2) (cj h3 (cj (bnot_f h2) (cj (bnot_f h2) (cj (dle_f h4) (cj (dle_f h4) (cj h5 (cj (dle_f h4) (cj (dle_f h4) (cj (bnot_f h6) (cj (bnot_f h6) (cj h7 (cj (bnot_f h6) (cj (bnot_f h6) (cj (bnot_f h8) (cj (deq_f h9) (cj (deq_t h10) (cj h11 (cj h12 (cj h13 (cj h14 True.intro))))))))))))))))))))))) (by kernel_rfl) hL)
theorem e8 (length fromV toV : ARat) (degree : Int) (val : Bool) (sig : Int) (val1 val2 : Bool) (sub one div one1 : ARat) {r : PV} (h1 : Contract prg 50 [length.pv] (vB val)) (h2 : val = true) (h3 : Contract prg 39 [length.pv] (vI sig)) (h4 : 0 < sig) (h5 : Contract prg 50 [fromV.pv] (vB val1)) (h6 : val1 = true) (h7 : Contract prg 50 [toV.pv] (vB val2)) (h8 : val2 = true) (h9 : degree ≠ 1) (h10 : degree ≠ 3) (h11 : degree = 5) (h12 : Contract prg 51 [toV.pv, fromV.pv] sub.pv) (h13 : Contract prg 53 [] one.pv) (h14 : Contract prg 52 [one.pv, length.pv] (.tup [div.pv, .nilI])) (h15 : Contract prg 53 [] one1.pv) (hL : Loop1 [] [0, 0, 0, 10, (-15), 6] 6 0 fromV sub div one1 r) : Contract prg 12 [length.pv, fromV.pv, toV.pv, (vI degree)] r :=
  Contract.ofL Tryz.func12 (by kernel_rfl) (L.go mixed tabOk (n := 186) (ns := [1, 1, 1, 1, 1, 1, 1, 1, 1, 1, 1, 1, 1, 1, 1, 1, 1, 1, 1, 1, 1, 1, 1, 1]) (tr := [.reg [], .reg [.none, (.pv (vB val)), .none, .none, .none, (.pv (vI sig)), .none, (.dec false), .none, .none, (.pv (vB val1)), .none, (.dec false), .none, .none, (.pv (vB val2)), .none, (.dec false)], .dec false, .reg [], .reg [], .reg [], .dec false, .reg [], .dec false, .reg [], .dec true, .reg [], .reg [.none, .none, (.pv sub.pv)], dr 8 1 [(.pv one.pv), .none, (.pv (.tup [div.pv, .nilI]))], .reg [], .auto, .reg [(.pv one1.pv)], .reg [.nil], .adopt 15 81 3, .reg [], .keep [5, 11, 12, 14, 15, 62, 63, 64], .drop [6, 4], .ren 48 42, .ord [5, 11, 12, 14, 42, 81]]) (cj h1 (cj (bnot_f h2) (cj (bnot_f h2) (cj h3 (cj (bnot_f h2) (cj (bnot_f h2) (cj (dle_f h4) (cj (dle_f h4) (cj h5 (cj (dle_f h4) (cj (dle_f h4) (cj (bnot_f h6) (cj (bnot_f h6) (cj h7 (cj (bnot_f h6) (cj (bnot_f h6) (cj (bnot_f h8) (cj (deq_f h9) (cj (deq_f h10) (cj (deq_t h11) (cj h12 (cj h13 (cj h14 (cj h15 True.intro)))))))))))))))))))))))) (by kernel_rfl) hL)
theorem l10 (site_81 : List ARat) (site_42 : List Int) (t_63 t_64 : Nat) (fromV sub div site_14 : ARat) (v : Int) (of mul mul1 mul2 : ARat) {r : PV} (h1 : t_64 < t_63) (h2 : t_64 < site_42.length) (h3 : site_42[t_64]? = some v) (h4 : Contract prg 33 [(vI v)] of.pv) (h5 : Contract prg 54 [of.pv, site_14.pv] mul.pv) (h6 : Contract prg 54 [sub.pv, mul.pv] mul1.pv) (h7 : t_64 = 0) (h8 : ((site_81 ++ [fromV]) : List ARat).length * 56 ≤ 140737488355328) (h9 : Contract prg 54 [site_14.pv, div.pv] mul2.pv) (h10 : (t_64 + 1) < 9223372036854775808) (hL : Loop1 (site_81 ++ [fromV]) site_42 t_63 (t_64 + 1) fromV sub div mul2 r) : Loop1 site_81 site_42 t_63 t_64 fromV sub div site_14 r :=
  L.go mixed tabOk (n := 234) (ns := [1, 2, 1, 1, 1, 1, 1, 6, 1, 1]) (tr := [.auto, .reg [], .dec true, .reg [.none, (.nat t_64), (.ev (.pv (vI v)))], dr 7 1 [.none, .none, (.pv of.pv), .none, (.pv mul.pv), (.pv mul1.pv)], .reg [], .dec true, .reg [], .reg [.none, .none, .none, (.app ((site_81 ++ [fromV]) : List ARat).length (((site_81 ++ [fromV]) : List ARat).map ARat.cells).flatten)], .reg [.none, .none, (.pv mul2.pv)], .reg [(iI (((t_64 + 1) : Nat) : Int))], .keep [5, 11, 12, 14, 15, 62, 63, 64], .drop [80, 18], .ord [5, 11, 12, 14, 42, 81]]) (cj (dltN_t h1) (cj (cj (Eq.refl (((t_64 : Nat) : Int) : Int)) h2) (cj (o_get (enc := intCell) (f := fun a => (vI a)) (fun _ => rfl) h3) (cj h4 (cj h5 (cj h6 (cj (deqN_t h7) (cj (o_appR sz_ARat (site_81 : List ARat) ([fromV] : List ARat) 56 (Eq.refl (site_81 : List ARat).length) (Eq.refl ([fromV] : List ARat).length) h8 rfl) (cj h9 (cj (bs_addN h10) True.intro)))))))))) (by kernel_rfl) hL
theorem l11 (site_81 : List ARat) (site_42 : List Int) (t_63 t_64 : Nat) (fromV sub div site_14 : ARat) (v : Int) (of mul mul1 mul2 : ARat) {r : PV} (h1 : t_64 < t_63) (h2 : t_64 < site_42.length) (h3 : site_42[t_64]? = some v) (h4 : Contract prg 33 [(vI v)] of.pv) (h5 : Contract prg 54 [of.pv, site_14.pv] mul.pv) (h6 : Contract prg 54 [sub.pv, mul.pv] mul1.pv) (h7 : t_64 ≠ 0) (h8 : ((site_81 ++ [mul1]) : List ARat).length * 56 ≤ 140737488355328) (h9 : Contract prg 54 [site_14.pv, div.pv] mul2.pv) (h10 : (t_64 + 1) < 9223372036854775808) (hL : Loop1 (site_81 ++ [mul1]) site_42 t_63 (t_64 + 1) fromV sub div mul2 r) : Loop1 site_81 site_42 t_63 t_64 fromV sub div site_14 r :=
  L.go mixed tabOk (n := 234) (ns := [1, 2, 1, 1, 1, 1, 1, 6, 1, 1]) (tr := [.auto, .reg [], .dec true, .reg [.none, (.nat t_64), (.ev (.pv (vI v)))], dr 7 1 [.none, .none, (.pv of.pv), .none, (.pv mul.pv), (.pv mul1.pv)], .reg [], .dec false, .reg [.none, .none, .none, (.app ((site_81 ++ [mul1]) : List ARat).length (((site_81 ++ [mul1]) : List ARat).map ARat.cells).flatten)], .reg [.none, .none, (.pv mul2.pv)], .reg [(iI (((t_64 + 1) : Nat) : Int))], .keep [5, 11, 12, 14, 15, 62, 63, 64], .drop [80, 18], .ord [5, 11, 12, 14, 42, 81]]) (cj (dltN_t h1) (cj (cj (Eq.refl (((t_64 : Nat) : Int) : Int)) h2) (cj (o_get (enc := intCell) (f := fun a => (vI a)) (fun _ => rfl) h3) (cj h4 (cj h5 (cj h6 (cj (deqN_f h7) (cj (o_appR sz_ARat (site_81 : List ARat) ([mul1] : List ARat) 56 (Eq.refl (site_81 : List ARat).length) (Eq.refl ([mul1] : List ARat).length) h8 rfl) (cj h9 (cj (bs_addN h10) True.intro)))))))))) (by kernel_rfl) hL
theorem l12 (site_81 : List ARat) (site_42 : List Int) (t_63 t_64 : Nat) (fromV sub div site_14 : ARat) (tri : List ARat) (h1 : t_63 ≤ t_64) (h2 : Contract prg 55 [(polyPV site_81)] (polyPV tri)) : Loop1 site_81 site_42 t_63 t_64 fromV sub div site_14 (.tup [(polyPV tri), .nilI]) :=
  L.done mixed tabOk (n := 201) (ns := [1, 3, 1]) (tr := [.auto, .reg [], .dec false, .frzT 15 ((site_81 : List ARat).map ARat.cells), .reg [.none, (.pv (polyPV tri))]]) (cj (dltN_f h1) (cj (o_frz sz_ARat (site_81 : List ARat) (Eq.refl (site_81 : List ARat).length)) (cj h2 True.intro))) (by kernel_rfl)
end law_Rise
namespace law_At
theorem e1 (l : ALaw) (x : ARat) (val : Bool) (wra : ARat) (pie : Int) (k : Nat) (v : List ARat) (k1 : Nat) (v1 sub eva : ARat) (eva1 : Option Int) (h1 : Contract prg 24 [l.pv] .nilI) (h2 : Contract prg 50 [x.pv] (vB val)) (h3 : val = true) (h4 : Contract prg 66 [x.pv] (.tup [wra.pv, .nilI])) (h5 : Contract prg 67 [l.pv, wra.pv] (vI pie)) (h6 : pie = (k : Int)) (h7 : l.pieces[k]? = some v) (h8 : pie = (k1 : Int)) (h9 : l.breaks[k1]? = some v1) (h10 : Contract prg 51 [wra.pv, v1.pv] sub.pv) (h11 : Contract prg 16 [(polyPV v), sub.pv] (.tup [eva.pv, (errPV eva1)])) : Contract prg 21 [l.pv, x.pv] (.tup [eva.pv, (errPV eva1)]) :=
  Contract.ofL Tryz.func21 (by kernel_rfl) (L.done mixed tabOk (n := 135) (ns := [1, 1, 1, 1, 1, 3, 3, 1, 1]) (tr := [.reg [], .reg [.none, (.pv .nilI)], .reg [], .auto, .reg [.none, (.pv (vB val))], .dec false, .reg [.none, (.pv (.tup [wra.pv, .nilI]))], .reg [], .auto, .reg [.none, .none, (.pv (vI pie))], dr 15 2 [.none, .none, .none, (.row k ((lcell ARat.cells) v)), .none, .none, .none, .none, .none, (.row k1 (ARat.cells v1)), .none, (.pv sub.pv), (.pv (.tup [eva.pv, (errPV eva1)]))]]) (cj h1 (cj h2 (cj (bnot_f h3) (cj h4 (cj h5 (cj (o_at (lcell ARat.cells) h6 h7) (cj (o_at ARat.cells h8 h9) (cj h10 (cj h11 True.intro))))))))) (by kernel_rfl))
end law_At
namespace law_Derive
@[reducible] noncomputable def fn : Func := Tryz.f22
noncomputable def atK1 : List Itm := focus [0, 2, 0, 0, 2, 0, 2, 1, 2, 0, 2, 0, 0, 2, 0, 0] [.code (bodyOf fn)]
def inv1 (l : ALaw) (t_19 : Nat) (site_43 : List ARat) (site_49 : List (List ARat)) : St := ⟨[(1, (.ptr 1 0)), (2, (.ptr 2 0)), (5, (.ptr 5 0)), (17, (.pv (lpv (lcell ARat.cells) l.pieces))), (18, (eI (l.pieces.length : Int))), (19, (eI (t_19 : Int)))], [(1, (.lit [(.pv (polyPV l.breaks)), (.pv (lpv (lcell ARat.cells) l.pieces))])), (2, (.lit [(.pv (.list [])), (.pv (.list []))])), (5, (.lit [(.row 43 0 site_43.length 3), (.row 49 0 site_49.length 1)])), (43, (.pure ((site_43 : List ARat).map ARat.cells).flatten)), (49, (.pure ((site_49 : List (List ARat)).map (lcell ARat.cells)).flatten))]⟩
@[reducible] noncomputable def Loop1 (l : ALaw) (t_19 : Nat) (site_43 : List ARat) (site_49 : List (List ARat)) (r : PV) : Prop := L prg fn atK1 (inv1 l t_19 site_43 site_49) r
theorem e0 (l : ALaw) {r : PV} (h1 : Contract prg 24 [l.pv] .nilI) (hL : Loop1 l 0 [] [] r) : Contract prg 22 [l.pv] r :=
  Contract.ofL Tryz.func22 (by kernel_rfl) (L.go mixed tabOk (n := 108) (ns := [1, 1]) (tr := [.reg [], .reg [.none, (.pv .nilI)], .reg [], .auto, .reg [.nil], .adoptC 5 0 43 3, .adoptC 5 1 49 1, .reg [.none, .none, (iI (l.pieces.length : Int))], .keep [1, 2, 5, 17, 18, 19], .ord [1, 2, 5, 43, 49]]) (cj h1 (cj (o_len (lcell ARat.cells) l.pieces) True.intro)) (by kernel_rfl) hL)
theorem l10 (l : ALaw) (t_19 : Nat) (site_43 : List ARat) (site_49 : List (List ARat)) (v der : List ARat) (v1 add : ARat) {r : PV} (h1 : t_19 < l.pieces.length) (h2 : l.pieces[t_19]? = some v) (h3 : Contract prg 18 [(polyPV v)] (.tup [(polyPV der), .nilI])) (h4 : l.breaks[t_19]? = some v1) (h5 : Contract prg 32 [v1.pv, (⟨false, [], []⟩ : ARat).pv] add.pv) (h6 : ((site_43 ++ [add]) : List ARat).length * 56 ≤ 140737488355328) (h7 : ((site_49 ++ [der]) : List (List ARat)).length * 24 ≤ 140737488355328) (h8 : (t_19 + 1) < 9223372036854775808) (hL : Loop1 l (t_19 + 1) (site_43 ++ [add]) (site_49 ++ [der]) r) : Loop1 l t_19 site_43 site_49 r :=
  L.go mixed tabOk (n := 174) (ns := [1, 3, 1, 3, 1, 6, 6, 1]) (tr := [.auto, .reg [], .dec true, .reg [.none, (.row t_19 ((lcell ARat.cells) v))], .reg [.none, (.pv (.tup [(polyPV der), .nilI]))], .reg [], .auto, dr 10 3 [.none, .none, .none, .none, .none, (.row t_19 (ARat.cells v1)), .none, .none, (.pv add.pv), .none, (.app ((site_43 ++ [add]) : List ARat).length (((site_43 ++ [add]) : List ARat).map ARat.cells).flatten)], .reg [.none, .none, .none, .none, (.app ((site_49 ++ [der]) : List (List ARat)).length (((site_49 ++ [der]) : List (List ARat)).map (lcell ARat.cells)).flatten)], .reg [(iI (((t_19 + 1) : Nat) : Int))], .keep [1, 2, 5, 17, 18, 19], .drop [48, 42], .ord [1, 2, 5, 43, 49]]) (cj (dltN_t h1) (cj (o_at (lcell ARat.cells) (Eq.refl (((t_19 : Nat) : Int) : Int)) h2) (cj h3 (cj (o_at ARat.cells (Eq.refl (((t_19 : Nat) : Int) : Int)) h4) (cj h5 (cj (o_appR sz_ARat (site_43 : List ARat) ([add] : List ARat) 56 (Eq.refl (site_43 : List ARat).length) (Eq.refl ([add] : List ARat).length) h6 rfl) (cj (o_appR (sz_l ARat.cells) (site_49 : List (List ARat)) ([der] : List (List ARat)) 24 (Eq.refl (site_49 : List (List ARat)).length) (Eq.refl ([der] : List (List ARat)).length) h7 rfl) (cj (bs_addN h8) True.intro)))))))) (by kernel_rfl) hL
theorem l12 (l : ALaw) (t_19 : Nat) (site_43 : List ARat) (site_49 : List (List ARat)) (h1 : l.pieces.length ≤ t_19) : Loop1 l t_19 site_43 site_49 (.tup [(⟨site_43, site_49⟩ : ALaw).pv, .nilI]) :=
  L.done mixed tabOk (n := 141) (ns := [1, 3, 3]) (tr := [.auto, .reg [], .dec false, .frzC 5 0 ((site_43 : List ARat).map ARat.cells), .frzC 5 1 ((site_49 : List (List ARat)).map (lcell ARat.cells)), .reg []]) (cj (dltN_f h1) (cj (o_frz sz_ARat (site_43 : List ARat) (Eq.refl (site_43 : List ARat).length)) (cj (o_frz (sz_l ARat.cells) (site_49 : List (List ARat)) (Eq.refl (site_49 : List (List ARat)).length)) True.intro))) (by kernel_rfl)
end law_Derive
namespace linkworkref52_Check
@[reducible] noncomputable def fn : Func := Tryz.f23
noncomputable def atK1 : List Itm := focus [0, 2, 0, 0, 2, 1, 2, 0, 0, 2, 1, 2, 0, 0, 2, 0, 0] [.code (bodyOf fn)]
def inv1 (i_3 : Nat) (l : ALaw) : St := ⟨[(1, (.ptr 1 0)), (3, (eI (i_3 : Int)))], [(1, (.lit [(.pv (polyPV l.breaks)), (.pv (lpv (lcell ARat.cells) l.pieces))]))]⟩
@[reducible] noncomputable def Loop1 (i_3 : Nat) (l : ALaw) (r : PV) : Prop := L prg fn atK1 (inv1 i_3 l) r
noncomputable def atK2 : List Itm := focus [0, 2, 0, 0, 2, 1, 2, 0, 0, 2, 1, 2, 0, 0, 2, 0, 0, 0, 0, 0, 2, 1, 2, 2, 2, 2, 0, 0, 2, 0, 0] [.code (bodyOf fn)]
def inv2 (i_5 : Nat) (l : ALaw) : St := ⟨[(1, (.ptr 1 0)), (5, (eI (i_5 : Int)))], [(1, (.lit [(.pv (polyPV l.breaks)), (.pv (lpv (lcell ARat.cells) l.pieces))]))]⟩
@[reducible] noncomputable def Loop2 (i_5 : Nat) (l : ALaw) (r : PV) : Prop := L prg fn atK2 (inv2 i_5 l) r
theorem e0 (l : ALaw) (h1 : l.breaks.length = 0) : Contract prg 23 [l.pv] (vI 10) :=
  Contract.ofL Tryz.func23 (by kernel_rfl) (L.done mixed tabOk (n := 84) (ns := [1, 1, 1, 1, 1, 1, 1, 1, 1]) (tr := [.reg [], .reg [.none, .none, (iI (l.breaks.length : Int)), .none, .none, .skip, .skip, .skip, .skip, .skip, .skip, .skip, (.dec true)], .auto, .reg []]) (cj (o_len ARat.cells l.breaks) (cj (deqN_t h1) (cj (deqN_t h1) (cj (deqN_t h1) (cj (deqN_t h1) (cj (deqN_t h1) (cj (deqN_t h1) (cj (deqN_t h1) (cj (deqN_t h1) True.intro))))))))) (by kernel_rfl))
theorem e1 (l : ALaw) (h1 : l.breaks.length ≠ 0) (h2 : l.breaks.length ≠ l.pieces.length) : Contract prg 23 [l.pv] (vI 10) :=
  Contract.ofL Tryz.func23 (by kernel_rfl) (L.done mixed tabOk (n := 84) (ns := [1, 1, 1, 1, 1, 1, 1, 1, 1, 1, 1, 1]) (tr := [.reg [], .reg [.none, .none, (iI (l.breaks.length : Int)), .none, .none, .none, .none, (iI (l.breaks.length : Int)), .none, .none, (iI (l.pieces.length : Int)), .none, (.dec false)], .dec true, .reg []]) (cj (o_len ARat.cells l.breaks) (cj (deqN_f h1) (cj (deqN_f h1) (cj (deqN_f h1) (cj (o_len ARat.cells l.breaks) (cj (deqN_f h1) (cj (deqN_f h1) (cj (deqN_f h1) (cj (o_len (lcell ARat.cells) l.pieces) (cj (deqN_f h1) (cj (deqN_f h1) (cj (dneN_t h2) True.intro)))))))))))) (by kernel_rfl))
theorem e2 (l : ALaw) (h1 : l.breaks.length ≠ 0) (h2 : l.breaks.length = l.pieces.length) (h3 : 16 < l.breaks.length) : Contract prg 23 [l.pv] (vI 4) :=
  Contract.ofL Tryz.func23 (by kernel_rfl) (L.done mixed tabOk (n := 99) (ns := [1, 1, 1, 1, 1, 1, 1, 1, 1, 1, 1, 1, 1, 1]) (tr := [.reg [], .reg [.none, .none, (iI (l.breaks.length : Int)), .none, .none, .none, .none, (iI (l.breaks.length : Int)), .none, .none, (iI (l.pieces.length : Int)), .none, (.dec false)], .dec false, .reg [.none, .none, (iI (l.breaks.length : Int))], .dec true, .reg []]) (cj (o_len ARat.cells l.breaks) (cj (deqN_f h1) (cj (deqN_f h1) (cj (deqN_f h1) (cj (o_len ARat.cells l.breaks) (cj (deqN_f h1) (cj (deqN_f h1) (cj (deqN_f h1) (cj (o_len (lcell ARat.cells) l.pieces) (cj (deqN_f h1) (cj (deqN_f h1) (cj (dneN_f h2) (cj (o_len ARat.cells l.breaks) (cj (dltN_t h3) True.intro)))))))))))))) (by kernel_rfl))
theorem e3 (l : ALaw) {r : PV} (h1 : l.breaks.length ≠ 0) (h2 : l.breaks.length = l.pieces.length) (h3 : l.breaks.length ≤ 16) (hL : Loop1 0 l r) : Contract prg 23 [l.pv] r :=
  Contract.ofL Tryz.func23 (by kernel_rfl) (L.go mixed tabOk (n := 111) (ns := [1, 1, 1, 1, 1, 1, 1, 1, 1, 1, 1, 1, 1, 1]) (tr := [.reg [], .reg [.none, .none, (iI (l.breaks.length : Int)), .none, .none, .none, .none, (iI (l.breaks.length : Int)), .none, .none, (iI (l.pieces.length : Int)), .none, (.dec false)], .dec false, .reg [.none, .none, (iI (l.breaks.length : Int))], .dec false, .reg [], .keep [1, 3]]) (cj (o_len ARat.cells l.breaks) (cj (deqN_f h1) (cj (deqN_f h1) (cj (deqN_f h1) (cj (o_len ARat.cells l.breaks) (cj (deqN_f h1) (cj (deqN_f h1) (cj (deqN_f h1) (cj (o_len (lcell ARat.cells) l.pieces) (cj (deqN_f h1) (cj (deqN_f h1) (cj (dneN_f h2) (cj (o_len ARat.cells l.breaks) (cj (dltN_f h3) True.intro)))))))))))))) (by kernel_rfl) hL)
theorem l10 (i_3 : Nat) (l : ALaw) (v : ARat) (val : Bool) (h1 : i_3 < l.breaks.length) (h2 : l.breaks[i_3]? = some v) (h3 : Contract prg 28 [v.pv] (vB val)) (h4 : val = false) : Loop1 i_3 l (vI 3) :=
  L.done mixed tabOk (n := 159) (ns := [1, 1, 3, 1, 1, 1, 1, 1, 1, 1, 1, 1]) (tr := [.auto, .reg [.none, .none, .none, (iI (l.breaks.length : Int))], .dec true, .reg [.none, .none, .none, (.row i_3 (ARat.cells v))], dr 14 0 [.none, (.pv (vB val)), .none, .none, .skip, .skip, .skip, (.dec true), .none, .skip, .skip, .skip, .skip], .auto, .reg []]) (cj (o_len ARat.cells l.breaks) (cj (dltN_t h1) (cj (o_at ARat.cells (Eq.refl (((i_3 : Nat) : Int) : Int)) h2) (cj h3 (cj (bnot_t h4) (cj (bnot_t h4) (cj (bnot_t h4) (cj (bnot_t h4) (cj (Eq.refl true) (cj (Eq.refl true) (cj (Eq.refl true) (cj (Eq.refl true) True.intro)))))))))))) (by kernel_rfl)
theorem l11 (i_3 : Nat) (l : ALaw) (v : ARat) (val : Bool) (sig : Int) (h1 : i_3 < l.breaks.length) (h2 : l.breaks[i_3]? = some v) (h3 : Contract prg 28 [v.pv] (vB val)) (h4 : val = true) (h5 : Contract prg 19 [v.pv] (vI sig)) (h6 : sig < 0) : Loop1 i_3 l (vI 3) :=
  L.done mixed tabOk (n := 159) (ns := [1, 1, 3, 1, 1, 1, 1, 1, 1, 1, 1, 1, 1, 1]) (tr := [.auto, .reg [.none, .none, .none, (iI (l.breaks.length : Int))], .dec true, .reg [.none, .none, .none, (.row i_3 (ARat.cells v))], dr 14 0 [.none, (.pv (vB val)), .none, .none, .none, (.pv (vI sig)), .none, (.dec false), .none, .skip, .skip, .skip, .skip, (.dec true)], .auto, .reg []]) (cj (o_len ARat.cells l.breaks) (cj (dltN_t h1) (cj (o_at ARat.cells (Eq.refl (((i_3 : Nat) : Int) : Int)) h2) (cj h3 (cj (bnot_f h4) (cj (bnot_f h4) (cj h5 (cj (bnot_f h4) (cj (bnot_f h4) (cj (dlt_t h6) (cj (dlt_t h6) (cj (dlt_t h6) (cj (dlt_t h6) (cj (dlt_t h6) True.intro)))))))))))))) (by kernel_rfl)
theorem l12 (i_3 : Nat) (l : ALaw) (v : ARat) (val : Bool) (sig : Int) (of : ARat) (cmp : Int) (h1 : i_3 < l.breaks.length) (h2 : l.breaks[i_3]? = some v) (h3 : Contract prg 28 [v.pv] (vB val)) (h4 : val = true) (h5 : Contract prg 19 [v.pv] (vI sig)) (h6 : 0 ≤ sig) (h7 : Contract prg 58 [(vI 1)] of.pv) (h8 : Contract prg 68 [v.pv, of.pv] (vI cmp)) (h9 : 0 ≤ cmp) : Loop1 i_3 l (vI 3) :=
  L.done mixed tabOk (n := 159) (ns := [1, 1, 3, 1, 1, 1, 1, 1, 1, 1, 1, 1, 1, 1, 1, 1, 1]) (tr := [.auto, .reg [.none, .none, .none, (iI (l.breaks.length : Int))], .dec true, .reg [.none, .none, .none, (.row i_3 (ARat.cells v))], dr 14 0 [.none, (.pv (vB val)), .none, .none, .none, (.pv (vI sig)), .none, (.dec false), .none, .none, (.pv of.pv), (.pv (vI cmp)), .none, (.dec false)], .dec true, .reg []]) (cj (o_len ARat.cells l.breaks) (cj (dltN_t h1) (cj (o_at ARat.cells (Eq.refl (((i_3 : Nat) : Int) : Int)) h2) (cj h3 (cj (bnot_f h4) (cj (bnot_f h4) (cj h5 (cj (bnot_f h4) (cj (bnot_f h4) (cj (dlt_f h6) (cj (dlt_f h6) (cj h7 (cj (dlt_f h6) (cj h8 (cj (dlt_f h6) (cj (dlt_f h6) (cj (dle_t h9) True.intro))))))))))))))))) (by kernel_rfl)
theorem l13 (i_3 : Nat) (l : ALaw) (v : ARat) (val : Bool) (sig : Int) (of : ARat) (cmp sig1 : Int) (h1 : i_3 < l.breaks.length) (h2 : l.breaks[i_3]? = some v) (h3 : Contract prg 28 [v.pv] (vB val)) (h4 : val = true) (h5 : Contract prg 19 [v.pv] (vI sig)) (h6 : 0 ≤ sig) (h7 : Contract prg 58 [(vI 1)] of.pv) (h8 : Contract prg 68 [v.pv, of.pv] (vI cmp)) (h9 : cmp < 0) (h10 : i_3 = 0) (h11 : Contract prg 19 [v.pv] (vI sig1)) (h12 : sig1 ≠ 0) : Loop1 i_3 l (vI 12) :=
  L.done mixed tabOk (n := 171) (ns := [1, 1, 3, 1, 1, 1, 1, 1, 1, 1, 1, 1, 1, 1, 1, 1, 1, 1, 1, 1, 1, 1, 1, 1, 1, 1, 1]) (tr := [.auto, .reg [.none, .none, .none, (iI (l.breaks.length : Int))], .dec true, .reg [.none, .none, .none, (.row i_3 (ARat.cells v))], dr 14 0 [.none, (.pv (vB val)), .none, .none, .none, (.pv (vI sig)), .none, (.dec false), .none, .none, (.pv of.pv), (.pv (vI cmp)), .none, (.dec false)], .dec false, dr 22 0 [.none, .none, .none, .none, (.pv (vI sig1)), .none, (.dec true), .none, .skip, .skip, .skip, .skip, .skip, .skip, .skip, .skip, .skip, .skip, .skip, .skip, .skip, (.dec true)], .auto, .reg []]) (cj (o_len ARat.cells l.breaks) (cj (dltN_t h1) (cj (o_at ARat.cells (Eq.refl (((i_3 : Nat) : Int) : Int)) h2) (cj h3 (cj (bnot_f h4) (cj (bnot_f h4) (cj h5 (cj (bnot_f h4) (cj (bnot_f h4) (cj (dlt_f h6) (cj (dlt_f h6) (cj h7 (cj (dlt_f h6) (cj h8 (cj (dlt_f h6) (cj (dlt_f h6) (cj (dle_f h9) (cj (deqN_t h10) (cj (deqN_t h10) (cj h11 (cj (deqN_t h10) (cj (deqN_t h10) (cj (dne_t h12) (cj (dne_t h12) (cj (dne_t h12) (cj (dne_t h12) (cj (dne_t h12) True.intro))))))))))))))))))))))))))) (by kernel_rfl)
theorem l16 (i_3 : Nat) (l : ALaw) (v : ARat) (val : Bool) (sig : Int) (of : ARat) (cmp sig1 : Int) {r : PV} (h1 : i_3 < l.breaks.length) (h2 : l.breaks[i_3]? = some v) (h3 : Contract prg 28 [v.pv] (vB val)) (h4 : val = true) (h5 : Contract prg 19 [v.pv] (vI sig)) (h6 : 0 ≤ sig) (h7 : Contract prg 58 [(vI 1)] of.pv) (h8 : Contract prg 68 [v.pv, of.pv] (vI cmp)) (h9 : cmp < 0) (h10 : i_3 = 0) (h11 : Contract prg 19 [v.pv] (vI sig1)) (h12 : sig1 = 0) (h13 : i_3 ≤ 0) (h14 : (i_3 + 1) < 9223372036854775808) (hL : Loop1 (i_3 + 1) l r) : Loop1 i_3 l r :=
  L.go mixed tabOk (n := 174) (ns := [1, 1, 3, 1, 1, 1, 1, 1, 1, 1, 1, 1, 1, 1, 1, 1, 1, 1, 1, 1, 1, 1, 1, 1, 1, 1, 1, 1, 1, 1, 1, 1, 1, 1, 1, 1, 1, 1]) (tr := [.auto, .reg [.none, .none, .none, (iI (l.breaks.length : Int))], .dec true, .reg [.none, .none, .none, (.row i_3 (ARat.cells v))], dr 14 0 [.none, (.pv (vB val)), .none, .none, .none, (.pv (vI sig)), .none, (.dec false), .none, .none, (.pv of.pv), (.pv (vI cmp)), .none, (.dec false)], .dec false, dr 22 0 [.none, .none, .none, .none, (.pv (vI sig1)), .none, (.dec true), .none, .none, .none, .none, .skip, .skip, .skip, .skip, .skip, .skip, .skip, .skip, .skip, (.dec false), (.dec false)], .auto, .reg [.none, (iI (((i_3 + 1) : Nat) : Int))], .keep [1, 3], .drop [4]]) (cj (o_len ARat.cells l.breaks) (cj (dltN_t h1) (cj (o_at ARat.cells (Eq.refl (((i_3 : Nat) : Int) : Int)) h2) (cj h3 (cj (bnot_f h4) (cj (bnot_f h4) (cj h5 (cj (bnot_f h4) (cj (bnot_f h4) (cj (dlt_f h6) (cj (dlt_f h6) (cj h7 (cj (dlt_f h6) (cj h8 (cj (dlt_f h6) (cj (dlt_f h6) (cj (dle_f h9) (cj (deqN_t h10) (cj (deqN_t h10) (cj h11 (cj (deqN_t h10) (cj (deqN_t h10) (cj (dne_f h12) (cj (dne_f h12) (cj (dne_f h12) (cj (dltN_f h13) (cj (dltN_f h13) (cj (dltN_f h13) (cj (dltN_f h13) (cj (dltN_f h13) (cj (dltN_f h13) (cj (dltN_f h13) (cj (dltN_f h13) (cj (dltN_f h13) (cj (dne_f h12) (cj (dltN_f h13) (cj (dne_f h12) (cj (bs_addN h14) True.intro)))))))))))))))))))))))))))))))))))))) (by kernel_rfl) hL
theorem l17 (i_3 : Nat) (l : ALaw) (v : ARat) (val : Bool) (sig : Int) (of : ARat) (cmp : Int) (k : Nat) (v1 : ARat) (cmp1 : Int) (h1 : i_3 < l.breaks.length) (h2 : l.breaks[i_3]? = some v) (h3 : Contract prg 28 [v.pv] (vB val)) (h4 : val = true) (h5 : Contract prg 19 [v.pv] (vI sig)) (h6 : 0 ≤ sig) (h7 : Contract prg 58 [(vI 1)] of.pv) (h8 : Contract prg 68 [v.pv, of.pv] (vI cmp)) (h9 : cmp < 0) (h10 : i_3 ≠ 0) (h11 : 0 < i_3) (h12 : InI64 ((i_3 : Int) - 1)) (h13 : ((i_3 : Int) - 1) = (k : Int)) (h14 : l.breaks[k]? = some v1) (h15 : Contract prg 68 [v.pv, v1.pv] (vI cmp1)) (h16 : cmp1 ≤ 0) : Loop1 i_3 l (vI 12) :=
  L.done mixed tabOk (n := 171) (ns := [1, 1, 3, 1, 1, 1, 1, 1, 1, 1, 1, 1, 1, 1, 1, 1, 1, 1, 1, 1, 1, 1, 1, 1, 1, 1, 1, 1, 1, 1, 1, 3, 1, 1, 1, 1, 1, 1, 1]) (tr := [.auto, .reg [.none, .none, .none, (iI (l.breaks.length : Int))], .dec true, .reg [.none, .none, .none, (.row i_3 (ARat.cells v))], dr 14 0 [.none, (.pv (vB val)), .none, .none, .none, (.pv (vI sig)), .none, (.dec false), .none, .none, (.pv of.pv), (.pv (vI cmp)), .none, (.dec false)], .dec false, dr 22 0 [.none, .none, .none, .skip, .skip, .skip, (.dec false), .none, .none, .none, .none, .none, .none, .none, .none, (iI ((i_3 : Int) - 1)), (.row k (ARat.cells v1)), .none, (.pv (vI cmp1)), .none, (.dec true)], .dec true, .reg []]) (cj (o_len ARat.cells l.breaks) (cj (dltN_t h1) (cj (o_at ARat.cells (Eq.refl (((i_3 : Nat) : Int) : Int)) h2) (cj h3 (cj (bnot_f h4) (cj (bnot_f h4) (cj h5 (cj (bnot_f h4) (cj (bnot_f h4) (cj (dlt_f h6) (cj (dlt_f h6) (cj h7 (cj (dlt_f h6) (cj h8 (cj (dlt_f h6) (cj (dlt_f h6) (cj (dle_f h9) (cj (deqN_f h10) (cj (deqN_f h10) (cj (deqN_f h10) (cj (deqN_f h10) (cj (Eq.refl false) (cj (Eq.refl false) (cj (Eq.refl false) (cj (dltN_t h11) (cj (dltN_t h11) (cj (dltN_t h11) (cj (dltN_t h11) (cj (dltN_t h11) (cj (bs_sub h12) (cj (dltN_t h11) (cj (o_at ARat.cells h13 h14) (cj (dltN_t h11) (cj (dltN_t h11) (cj h15 (cj (dltN_t h11) (cj (Eq.refl false) (cj (dltN_t h11) (cj (dle_t h16) True.intro))))))))))))))))))))))))))))))))))))))) (by kernel_rfl)
theorem l18 (i_3 : Nat) (l : ALaw) (v : ARat) (val : Bool) (sig : Int) (of : ARat) (cmp : Int) (k : Nat) (v1 : ARat) (cmp1 : Int) {r : PV} (h1 : i_3 < l.breaks.length) (h2 : l.breaks[i_3]? = some v) (h3 : Contract prg 28 [v.pv] (vB val)) (h4 : val = true) (h5 : Contract prg 19 [v.pv] (vI sig)) (h6 : 0 ≤ sig) (h7 : Contract prg 58 [(vI 1)] of.pv) (h8 : Contract prg 68 [v.pv, of.pv] (vI cmp)) (h9 : cmp < 0) (h10 : i_3 ≠ 0) (h11 : 0 < i_3) (h12 : InI64 ((i_3 : Int) - 1)) (h13 : ((i_3 : Int) - 1) = (k : Int)) (h14 : l.breaks[k]? = some v1) (h15 : Contract prg 68 [v.pv, v1.pv] (vI cmp1)) (h16 : 0 < cmp1) (h17 : (i_3 + 1) < 9223372036854775808) (hL : Loop1 (i_3 + 1) l r) : Loop1 i_3 l r :=
  L.go mixed tabOk (n := 174) (ns := [1, 1, 3, 1, 1, 1, 1, 1, 1, 1, 1, 1, 1, 1, 1, 1, 1, 1, 1, 1, 1, 1, 1, 1, 1, 1, 1, 1, 1, 1, 1, 3, 1, 1, 1, 1, 1, 1, 1, 1]) (tr := [.auto, .reg [.none, .none, .none, (iI (l.breaks.length : Int))], .dec true, .reg [.none, .none, .none, (.row i_3 (ARat.cells v))], dr 14 0 [.none, (.pv (vB val)), .none, .none, .none, (.pv (vI sig)), .none, (.dec false), .none, .none, (.pv of.pv), (.pv (vI cmp)), .none, (.dec false)], .dec false, dr 22 0 [.none, .none, .none, .skip, .skip, .skip, (.dec false), .none, .none, .none, .none, .none, .none, .none, .none, (iI ((i_3 : Int) - 1)), (.row k (ARat.cells v1)), .none, (.pv (vI cmp1)), .none, (.dec true)], .dec false, .reg [.none, (iI (((i_3 + 1) : Nat) : Int))], .keep [1, 3], .drop [4]]) (cj (o_len ARat.cells l.breaks) (cj (dltN_t h1) (cj (o_at ARat.cells (Eq.refl (((i_3 : Nat) : Int) : Int)) h2) (cj h3 (cj (bnot_f h4) (cj (bnot_f h4) (cj h5 (cj (bnot_f h4) (cj (bnot_f h4) (cj (dlt_f h6) (cj (dlt_f h6) (cj h7 (cj (dlt_f h6) (cj h8 (cj (dlt_f h6) (cj (dlt_f h6) (cj (dle_f h9) (cj (deqN_f h10) (cj (deqN_f h10) (cj (deqN_f h10) (cj (deqN_f h10) (cj (Eq.refl false) (cj (Eq.refl false) (cj (Eq.refl false) (cj (dltN_t h11) (cj (dltN_t h11) (cj (dltN_t h11) (cj (dltN_t h11) (cj (dltN_t h11) (cj (bs_sub h12) (cj (dltN_t h11) (cj (o_at ARat.cells h13 h14) (cj (dltN_t h11) (cj (dltN_t h11) (cj h15 (cj (dltN_t h11) (cj (Eq.refl false) (cj (dltN_t h11) (cj (dle_f h16) (cj (bs_addN h17) True.intro)))))))))))))))))))))))))))))))))))))))) (by kernel_rfl) hL
theorem l110 (i_3 : Nat) (l : ALaw) {r : PV} (h1 : l.breaks.length ≤ i_3) (hL : Loop2 0 l r) : Loop1 i_3 l r :=
  L.go mixed tabOk (n := 153) (ns := [1, 1]) (tr := [.auto, .reg [.none, .none, .none, (iI (l.breaks.length : Int))], .dec false, .reg [], .keep [1, 5]]) (cj (o_len ARat.cells l.breaks) (cj (dltN_f h1) True.intro)) (by kernel_rfl) hL
theorem l20 (i_5 : Nat) (l : ALaw) (v : List ARat) (che : Int) (h1 : i_5 < l.pieces.length) (h2 : l.pieces[i_5]? = some v) (h3 : Contract prg 69 [(polyPV v)] (vI che)) (h4 : che ≠ 0) : Loop2 i_5 l (vI che) :=
  L.done mixed tabOk (n := 201) (ns := [1, 1, 3, 1, 1]) (tr := [.auto, .reg [.none, .none, .none, (iI (l.pieces.length : Int))], .dec true, .reg [.none, .none, .none, (.row i_5 ((lcell ARat.cells) v)), .none, (.pv (vI che))], .reg [], .dec true, .reg []]) (cj (o_len (lcell ARat.cells) l.pieces) (cj (dltN_t h1) (cj (o_at (lcell ARat.cells) (Eq.refl (((i_5 : Nat) : Int) : Int)) h2) (cj h3 (cj (dne_t h4) True.intro))))) (by kernel_rfl)
theorem l21 (i_5 : Nat) (l : ALaw) (v : List ARat) (che : Int) (h1 : i_5 < l.pieces.length) (h2 : l.pieces[i_5]? = some v) (h3 : Contract prg 69 [(polyPV v)] (vI che)) (h4 : che = 0) (h5 : 9 < v.length) : Loop2 i_5 l (vI 4) :=
  L.done mixed tabOk (n := 213) (ns := [1, 1, 3, 1, 1, 3, 1, 1]) (tr := [.auto, .reg [.none, .none, .none, (iI (l.pieces.length : Int))], .dec true, .reg [.none, .none, .none, (.row i_5 ((lcell ARat.cells) v)), .none, (.pv (vI che))], .reg [], .dec false, .reg [.none, .none, .none, (.row i_5 ((lcell ARat.cells) v)), .none, (iI (v.length : Int))], .dec true, .reg []]) (cj (o_len (lcell ARat.cells) l.pieces) (cj (dltN_t h1) (cj (o_at (lcell ARat.cells) (Eq.refl (((i_5 : Nat) : Int) : Int)) h2) (cj h3 (cj (dne_f h4) (cj (o_at (lcell ARat.cells) (Eq.refl (((i_5 : Nat) : Int) : Int)) h2) (cj (o_len ARat.cells v) (cj (dltN_t h5) True.intro)))))))) (by kernel_rfl)
theorem l22 (i_5 : Nat) (l : ALaw) (v : List ARat) (che : Int) {r : PV} (h1 : i_5 < l.pieces.length) (h2 : l.pieces[i_5]? = some v) (h3 : Contract prg 69 [(polyPV v)] (vI che)) (h4 : che = 0) (h5 : v.length ≤ 9) (h6 : (i_5 + 1) < 9223372036854775808) (hL : Loop2 (i_5 + 1) l r) : Loop2 i_5 l r :=
  L.go mixed tabOk (n := 216) (ns := [1, 1, 3, 1, 1, 3, 1, 1, 1]) (tr := [.auto, .reg [.none, .none, .none, (iI (l.pieces.length : Int))], .dec true, .reg [.none, .none, .none, (.row i_5 ((lcell ARat.cells) v)), .none, (.pv (vI che))], .reg [], .dec false, .reg [.none, .none, .none, (.row i_5 ((lcell ARat.cells) v)), .none, (iI (v.length : Int))], .dec false, .reg [.none, (iI (((i_5 + 1) : Nat) : Int))], .keep [1, 5]]) (cj (o_len (lcell ARat.cells) l.pieces) (cj (dltN_t h1) (cj (o_at (lcell ARat.cells) (Eq.refl (((i_5 : Nat) : Int) : Int)) h2) (cj h3 (cj (dne_f h4) (cj (o_at (lcell ARat.cells) (Eq.refl (((i_5 : Nat) : Int) : Int)) h2) (cj (o_len ARat.cells v) (cj (dltN_f h5) (cj (bs_addN h6) True.intro))))))))) (by kernel_rfl) hL
theorem l23 (i_5 : Nat) (l : ALaw) (h1 : l.pieces.length ≤ i_5) : Loop2 i_5 l (vI 0) :=
  L.done mixed tabOk (n := 186) (ns := [1, 1]) (tr := [.auto, .reg [.none, .none, .none, (iI (l.pieces.length : Int))], .dec false, .reg []]) (cj (o_len (lcell ARat.cells) l.pieces) (cj (dltN_f h1) True.intro)) (by kernel_rfl)
end linkworkref52_Check
namespace law_Check
@[reducible] noncomputable def fn : Func := Tryz.f24
noncomputable def atK1 : List Itm := focus [0, 2, 0, 0, 2, 1, 2, 0, 0, 2, 1, 2, 0, 0, 2, 0, 0] [.code (bodyOf fn)]
def inv1 (l : ALaw) (t_30 : Nat) : St := ⟨[(1, (.ptr 1 0)), (28, (.pv (polyPV l.breaks))), (29, (eI (l.breaks.length : Int))), (30, (eI (t_30 : Int)))], [(1, (.lit [(.pv (polyPV l.breaks)), (.pv (lpv (lcell ARat.cells) l.pieces))]))]⟩
@[reducible] noncomputable def Loop1 (l : ALaw) (t_30 : Nat) (r : PV) : Prop := L prg fn atK1 (inv1 l t_30) r
noncomputable def atK2 : List Itm := focus [0, 2, 0, 0, 2, 1, 2, 0, 0, 2, 1, 2, 0, 0, 2, 0, 0, 0, 0, 2, 0, 1, 2, 2, 2, 2, 0, 0, 2, 0, 0] [.code (bodyOf fn)]
def inv2 (l : ALaw) (t_77 : Nat) : St := ⟨[(75, (.pv (lpv (lcell ARat.cells) l.pieces))), (76, (eI (l.pieces.length : Int))), (77, (eI (t_77 : Int)))], []⟩
@[reducible] noncomputable def Loop2 (l : ALaw) (t_77 : Nat) (r : PV) : Prop := L prg fn atK2 (inv2 l t_77) r
theorem e0 (l : ALaw) (h1 : l.breaks.length = 0) : Contract prg 24 [l.pv] (.iface 57 (vI 10)) :=
  Contract.ofL Tryz.func24 (by kernel_rfl) (L.done mixed tabOk (n := 84) (ns := [1, 1, 1, 1, 1, 1, 1, 1, 1]) (tr := [.reg [], .reg [.none, .none, (iI (l.breaks.length : Int)), .none, .none, .skip, .skip, .skip, .skip, .skip, .skip, .skip, (.dec true)], .auto, .reg []]) (cj (o_len ARat.cells l.breaks) (cj (deqN_t h1) (cj (deqN_t h1) (cj (deqN_t h1) (cj (deqN_t h1) (cj (deqN_t h1) (cj (deqN_t h1) (cj (deqN_t h1) (cj (deqN_t h1) True.intro))))))))) (by kernel_rfl))
theorem e1 (l : ALaw) (h1 : l.breaks.length ≠ 0) (h2 : l.breaks.length ≠ l.pieces.length) : Contract prg 24 [l.pv] (.iface 57 (vI 10)) :=
  Contract.ofL Tryz.func24 (by kernel_rfl) (L.done mixed tabOk (n := 84) (ns := [1, 1, 1, 1, 1, 1, 1, 1, 1, 1, 1, 1]) (tr := [.reg [], .reg [.none, .none, (iI (l.breaks.length : Int)), .none, .none, .none, .none, (iI (l.breaks.length : Int)), .none, .none, (iI (l.pieces.length : Int)), .none, (.dec false)], .dec true, .reg []]) (cj (o_len ARat.cells l.breaks) (cj (deqN_f h1) (cj (deqN_f h1) (cj (deqN_f h1) (cj (o_len ARat.cells l.breaks) (cj (deqN_f h1) (cj (deqN_f h1) (cj (deqN_f h1) (cj (o_len (lcell ARat.cells) l.pieces) (cj (deqN_f h1) (cj (deqN_f h1) (cj (dneN_t h2) True.intro)))))))))))) (by kernel_rfl))
theorem e2 (l : ALaw) (h1 : l.breaks.length ≠ 0) (h2 : l.breaks.length = l.pieces.length) (h3 : 16 < l.breaks.length) : Contract prg 24 [l.pv] (.iface 57 (vI 4)) :=
  Contract.ofL Tryz.func24 (by kernel_rfl) (L.done mixed tabOk (n := 99) (ns := [1, 1, 1, 1, 1, 1, 1, 1, 1, 1, 1, 1, 1, 1]) (tr := [.reg [], .reg [.none, .none, (iI (l.breaks.length : Int)), .none, .none, .none, .none, (iI (l.breaks.length : Int)), .none, .none, (iI (l.pieces.length : Int)), .none, (.dec false)], .dec false, .reg [.none, .none, (iI (l.breaks.length : Int))], .dec true, .reg []]) (cj (o_len ARat.cells l.breaks) (cj (deqN_f h1) (cj (deqN_f h1) (cj (deqN_f h1) (cj (o_len ARat.cells l.breaks) (cj (deqN_f h1) (cj (deqN_f h1) (cj (deqN_f h1) (cj (o_len (lcell ARat.cells) l.pieces) (cj (deqN_f h1) (cj (deqN_f h1) (cj (dneN_f h2) (cj (o_len ARat.cells l.breaks) (cj (dltN_t h3) True.intro)))))))))))))) (by kernel_rfl))
theorem e3 (l : ALaw) {r : PV} (h1 : l.breaks.length ≠ 0) (h2 : l.breaks.length = l.pieces.length) (h3 : l.breaks.length ≤ 16) (hL : Loop1 l 0 r) : Contract prg 24 [l.pv] r :=
  Contract.ofL Tryz.func24 (by kernel_rfl) (L.go mixed tabOk (n := 111) (ns := [1, 1, 1, 1, 1, 1, 1, 1, 1, 1, 1, 1, 1, 1, 1]) (tr := [.reg [], .reg [.none, .none, (iI (l.breaks.length : Int)), .none, .none, .none, .none, (iI (l.breaks.length : Int)), .none, .none, (iI (l.pieces.length : Int)), .none, (.dec false)], .dec false, .reg [.none, .none, (iI (l.breaks.length : Int))], .dec false, .reg [.none, .none, (iI (l.breaks.length : Int))], .keep [1, 28, 29, 30]]) (cj (o_len ARat.cells l.breaks) (cj (deqN_f h1) (cj (deqN_f h1) (cj (deqN_f h1) (cj (o_len ARat.cells l.breaks) (cj (deqN_f h1) (cj (deqN_f h1) (cj (deqN_f h1) (cj (o_len (lcell ARat.cells) l.pieces) (cj (deqN_f h1) (cj (deqN_f h1) (cj (dneN_f h2) (cj (o_len ARat.cells l.breaks) (cj (dltN_f h3) (cj (o_len ARat.cells l.breaks) True.intro))))))))))))))) (by kernel_rfl) hL)
theorem l10 (l : ALaw) (t_30 : Nat) (v : ARat) (val : Bool) (h1 : t_30 < l.breaks.length) (h2 : l.breaks[t_30]? = some v) (h3 : Contract prg 50 [v.pv] (vB val)) (h4 : val = false) : Loop1 l t_30 (.iface 57 (vI 3)) :=
  L.done mixed tabOk (n := 159) (ns := [1, 3, 1, 1, 1, 1, 1, 1, 1, 1, 1]) (tr := [.auto, .reg [], .dec true, .reg [.none, (.row t_30 (ARat.cells v))], dr 14 0 [.none, (.pv (vB val)), .none, .none, .skip, .skip, .skip, (.dec true), .none, .skip, .skip, .skip, .skip], .auto, .reg []]) (cj (dltN_t h1) (cj (o_at ARat.cells (Eq.refl (((t_30 : Nat) : Int) : Int)) h2) (cj h3 (cj (bnot_t h4) (cj (bnot_t h4) (cj (bnot_t h4) (cj (bnot_t h4) (cj (Eq.refl true) (cj (Eq.refl true) (cj (Eq.refl true) (cj (Eq.refl true) True.intro))))))))))) (by kernel_rfl)
theorem l11 (l : ALaw) (t_30 : Nat) (v : ARat) (val : Bool) (sig : Int) (h1 : t_30 < l.breaks.length) (h2 : l.breaks[t_30]? = some v) (h3 : Contract prg 50 [v.pv] (vB val)) (h4 : val = true) (h5 : Contract prg 39 [v.pv] (vI sig)) (h6 : sig < 0) : Loop1 l t_30 (.iface 57 (vI 3)) :=
  L.done mixed tabOk (n := 159) (ns := [1, 3, 1, 1, 1, 1, 1, 1, 1, 1, 1, 1, 1]) (tr := [.auto, .reg [], .dec true, .reg [.none, (.row t_30 (ARat.cells v))], dr 14 0 [.none, (.pv (vB val)), .none, .none, .none, (.pv (vI sig)), .none, (.dec false), .none, .skip, .skip, .skip, .skip, (.dec true)], .auto, .reg []]) (cj (dltN_t h1) (cj (o_at ARat.cells (Eq.refl (((t_30 : Nat) : Int) : Int)) h2) (cj h3 (cj (bnot_f h4) (cj (bnot_f h4) (cj h5 (cj (bnot_f h4) (cj (bnot_f h4) (cj (dlt_t h6) (cj (dlt_t h6) (cj (dlt_t h6) (cj (dlt_t h6) (cj (dlt_t h6) True.intro))))))))))))) (by kernel_rfl)
theorem l12 (l : ALaw) (t_30 : Nat) (v : ARat) (val : Bool) (sig : Int) (one : ARat) (cmp : Int) (h1 : t_30 < l.breaks.length) (h2 : l.breaks[t_30]? = some v) (h3 : Contract prg 50 [v.pv] (vB val)) (h4 : val = true) (h5 : Contract prg 39 [v.pv] (vI sig)) (h6 : 0 ≤ sig) (h7 : Contract prg 53 [] one.pv) (h8 : Contract prg 38 [v.pv, one.pv] (vI cmp)) (h9 : 0 ≤ cmp) : Loop1 l t_30 (.iface 57 (vI 3)) :=
  L.done mixed tabOk (n := 159) (ns := [1, 3, 1, 1, 1, 1, 1, 1, 1, 1, 1, 1, 1, 1, 1, 1]) (tr := [.auto, .reg [], .dec true, .reg [.none, (.row t_30 (ARat.cells v))], dr 14 0 [.none, (.pv (vB val)), .none, .none, .none, (.pv (vI sig)), .none, (.dec false), .none, .none, (.pv one.pv), (.pv (vI cmp)), .none, (.dec false)], .dec true, .reg []]) (cj (dltN_t h1) (cj (o_at ARat.cells (Eq.refl (((t_30 : Nat) : Int) : Int)) h2) (cj h3 (cj (bnot_f h4) (cj (bnot_f h4) (cj h5 (cj (bnot_f h4) (cj (bnot_f h4) (cj (dlt_f h6) (cj (dlt_f h6) (cj h7 (cj (dlt_f h6) (cj h8 (cj (dlt_f h6) (cj (dlt_f h6) (cj (dle_t h9) True.intro)))))))))))))))) (by kernel_rfl)
theorem l13 (l : ALaw) (t_30 : Nat) (v : ARat) (val : Bool) (sig : Int) (one : ARat) (cmp sig1 : Int) (h1 : t_30 < l.breaks.length) (h2 : l.breaks[t_30]? = some v) (h3 : Contract prg 50 [v.pv] (vB val)) (h4 : val = true) (h5 : Contract prg 39 [v.pv] (vI sig)) (h6 : 0 ≤ sig) (h7 : Contract prg 53 [] one.pv) (h8 : Contract prg 38 [v.pv, one.pv] (vI cmp)) (h9 : cmp < 0) (h10 : t_30 = 0) (h11 : Contract prg 39 [v.pv] (vI sig1)) (h12 : sig1 ≠ 0) : Loop1 l t_30 (.iface 57 (vI 12)) :=
  L.done mixed tabOk (n := 171) (ns := [1, 3, 1, 1, 1, 1, 1, 1, 1, 1, 1, 1, 1, 1, 1, 1, 1, 1, 1, 1, 1, 1, 1, 1, 1, 1]) (tr := [.auto, .reg [], .dec true, .reg [.none, (.row t_30 (ARat.cells v))], dr 14 0 [.none, (.pv (vB val)), .none, .none, .none, (.pv (vI sig)), .none, (.dec false), .none, .none, (.pv one.pv), (.pv (vI cmp)), .none, (.dec false)], .dec false, dr 22 0 [.none, .none, .none, .none, (.pv (vI sig1)), .none, (.dec true), .none, .skip, .skip, .skip, .skip, .skip, .skip, .skip, .skip, .skip, .skip, .skip, .skip, .skip, (.dec true)], .auto, .reg []]) (cj (dltN_t h1) (cj (o_at ARat.cells (Eq.refl (((t_30 : Nat) : Int) : Int)) h2) (cj h3 (cj (bnot_f h4) (cj (bnot_f h4) (cj h5 (cj (bnot_f h4) (cj (bnot_f h4) (cj (dlt_f h6) (cj (dlt_f h6) (cj h7 (cj (dlt_f h6) (cj h8 (cj (dlt_f h6) (cj (dlt_f h6) (cj (dle_f h9) (cj (deqN_t h10) (cj (deqN_t h10) (cj h11 (cj (deqN_t h10) (cj (deqN_t h10) (cj (dne_t h12) (cj (dne_t h12) (cj (dne_t h12) (cj (dne_t h12) (cj (dne_t h12) True.intro)))))))))))))))))))))))))) (by kernel_rfl)
theorem l16 (l : ALaw) (t_30 : Nat) (v : ARat) (val : Bool) (sig : Int) (one : ARat) (cmp sig1 : Int) {r : PV} (h1 : t_30 < l.breaks.length) (h2 : l.breaks[t_30]? = some v) (h3 : Contract prg 50 [v.pv] (vB val)) (h4 : val = true) (h5 : Contract prg 39 [v.pv] (vI sig)) (h6 : 0 ≤ sig) (h7 : Contract prg 53 [] one.pv) (h8 : Contract prg 38 [v.pv, one.pv] (vI cmp)) (h9 : cmp < 0) (h10 : t_30 = 0) (h11 : Contract prg 39 [v.pv] (vI sig1)) (h12 : sig1 = 0) (h13 : t_30 ≤ 0) (h14 : (t_30 + 1) < 9223372036854775808) (hL : Loop1 l (t_30 + 1) r) : Loop1 l t_30 r :=
  L.go mixed tabOk (n := 174) (ns := [1, 3, 1, 1, 1, 1, 1, 1, 1, 1, 1, 1, 1, 1, 1, 1, 1, 1, 1, 1, 1, 1, 1, 1, 1, 1, 1, 1, 1, 1, 1, 1, 1, 1, 1, 1, 1]) (tr := [.auto, .reg [], .dec true, .reg [.none, (.row t_30 (ARat.cells v))], dr 14 0 [.none, (.pv (vB val)), .none, .none, .none, (.pv (vI sig)), .none, (.dec false), .none, .none, (.pv one.pv), (.pv (vI cmp)), .none, (.dec false)], .dec false, dr 22 0 [.none, .none, .none, .none, (.pv (vI sig1)), .none, (.dec true), .none, .none, .none, .none, .skip, .skip, .skip, .skip, .skip, .skip, .skip, .skip, .skip, (.dec false), (.dec false)], .auto, .reg [(iI (((t_30 + 1) : Nat) : Int))], .keep [1, 28, 29, 30], .drop [4]]) (cj (dltN_t h1) (cj (o_at ARat.cells (Eq.refl (((t_30 : Nat) : Int) : Int)) h2) (cj h3 (cj (bnot_f h4) (cj (bnot_f h4) (cj h5 (cj (bnot_f h4) (cj (bnot_f h4) (cj (dlt_f h6) (cj (dlt_f h6) (cj h7 (cj (dlt_f h6) (cj h8 (cj (dlt_f h6) (cj (dlt_f h6) (cj (dle_f h9) (cj (deqN_t h10) (cj (deqN_t h10) (cj h11 (cj (deqN_t h10) (cj (deqN_t h10) (cj (dne_f h12) (cj (dne_f h12) (cj (dne_f h12) (cj (dltN_f h13) (cj (dltN_f h13) (cj (dltN_f h13) (cj (dltN_f h13) (cj (dltN_f h13) (cj (dltN_f h13) (cj (dltN_f h13) (cj (dltN_f h13) (cj (dltN_f h13) (cj (dne_f h12) (cj (dltN_f h13) (cj (dne_f h12) (cj (bs_addN h14) True.intro))))))))))))))))))))))))))))))))))))) (by kernel_rfl) hL
theorem l17 (l : ALaw) (t_30 : Nat) (v : ARat) (val : Bool) (sig : Int) (one : ARat) (cmp : Int) (k : Nat) (v1 : ARat) (cmp1 : Int) (h1 : t_30 < l.breaks.length) (h2 : l.breaks[t_30]? = some v) (h3 : Contract prg 50 [v.pv] (vB val)) (h4 : val = true) (h5 : Contract prg 39 [v.pv] (vI sig)) (h6 : 0 ≤ sig) (h7 : Contract prg 53 [] one.pv) (h8 : Contract prg 38 [v.pv, one.pv] (vI cmp)) (h9 : cmp < 0) (h10 : t_30 ≠ 0) (h11 : 0 < t_30) (h12 : InI64 ((t_30 : Int) - 1)) (h13 : ((t_30 : Int) - 1) = (k : Int)) (h14 : l.breaks[k]? = some v1) (h15 : Contract prg 38 [v.pv, v1.pv] (vI cmp1)) (h16 : cmp1 ≤ 0) : Loop1 l t_30 (.iface 57 (vI 12)) :=
  L.done mixed tabOk (n := 171) (ns := [1, 3, 1, 1, 1, 1, 1, 1, 1, 1, 1, 1, 1, 1, 1, 1, 1, 1, 1, 1, 1, 1, 1, 1, 1, 1, 1, 1, 1, 1, 3, 1, 1, 1, 1, 1, 1, 1]) (tr := [.auto, .reg [], .dec true, .reg [.none, (.row t_30 (ARat.cells v))], dr 14 0 [.none, (.pv (vB val)), .none, .none, .none, (.pv (vI sig)), .none, (.dec false), .none, .none, (.pv one.pv), (.pv (vI cmp)), .none, (.dec false)], .dec false, dr 22 0 [.none, .none, .none, .skip, .skip, .skip, (.dec false), .none, .none, .none, .none, .none, .none, .none, .none, (iI ((t_30 : Int) - 1)), (.row k (ARat.cells v1)), .none, (.pv (vI cmp1)), .none, (.dec true)], .dec true, .reg []]) (cj (dltN_t h1) (cj (o_at ARat.cells (Eq.refl (((t_30 : Nat) : Int) : Int)) h2) (cj h3 (cj (bnot_f h4) (cj (bnot_f h4) (cj h5 (cj (bnot_f h4) (cj (bnot_f h4) (cj (dlt_f h6) (cj (dlt_f h6) (cj h7 (cj (dlt_f h6) (cj h8 (cj (dlt_f h6) (cj (dlt_f h6) (cj (dle_f h9) (cj (deqN_f h10) (cj (deqN_f h10) (cj (deqN_f h10) (cj (deqN_f h10) (cj (Eq.refl false) (cj (Eq.refl false) (cj (Eq.refl false) (cj (dltN_t h11) (cj (dltN_t h11) (cj (dltN_t h11) (cj (dltN_t h11) (cj (dltN_t h11) (cj (bs_sub h12) (cj (dltN_t h11) (cj (o_at ARat.cells h13 h14) (cj (dltN_t h11) (cj (dltN_t h11) (cj h15 (cj (dltN_t h11) (cj (Eq.refl false) (cj (dltN_t h11) (cj (dle_t h16) True.intro)))))))))))))))))))))))))))))))))))))) (by kernel_rfl)
theorem l18 (l : ALaw) (t_30 : Nat) (v : ARat) (val : Bool) (sig : Int) (one : ARat) (cmp : Int) (k : Nat) (v1 : ARat) (cmp1 : Int) {r : PV} (h1 : t_30 < l.breaks.length) (h2 : l.breaks[t_30]? = some v) (h3 : Contract prg 50 [v.pv] (vB val)) (h4 : val = true) (h5 : Contract prg 39 [v.pv] (vI sig)) (h6 : 0 ≤ sig) (h7 : Contract prg 53 [] one.pv) (h8 : Contract prg 38 [v.pv, one.pv] (vI cmp)) (h9 : cmp < 0) (h10 : t_30 ≠ 0) (h11 : 0 < t_30) (h12 : InI64 ((t_30 : Int) - 1)) (h13 : ((t_30 : Int) - 1) = (k : Int)) (h14 : l.breaks[k]? = some v1) (h15 : Contract prg 38 [v.pv, v1.pv] (vI cmp1)) (h16 : 0 < cmp1) (h17 : (t_30 + 1) < 9223372036854775808) (hL : Loop1 l (t_30 + 1) r) : Loop1 l t_30 r :=
  L.go mixed tabOk (n := 174) (ns := [1, 3, 1, 1, 1, 1, 1, 1, 1, 1, 1, 1, 1, 1, 1, 1, 1, 1, 1, 1, 1, 1, 1, 1, 1, 1, 1, 1, 1, 1, 3, 1, 1, 1, 1, 1, 1, 1, 1]) (tr := [.auto, .reg [], .dec true, .reg [.none, (.row t_30 (ARat.cells v))], dr 14 0 [.none, (.pv (vB val)), .none, .none, .none, (.pv (vI sig)), .none, (.dec false), .none, .none, (.pv one.pv), (.pv (vI cmp)), .none, (.dec false)], .dec false, dr 22 0 [.none, .none, .none, .skip, .skip, .skip, (.dec false), .none, .none, .none, .none, .none, .none, .none, .none, (iI ((t_30 : Int) - 1)), (.row k (ARat.cells v1)), .none, (.pv (vI cmp1)), .none, (.dec true)], .dec false, .reg [(iI (((t_30 + 1) : Nat) : Int))], .keep [1, 28, 29, 30], .drop [4]]) (cj (dltN_t h1) (cj (o_at ARat.cells (Eq.refl (((t_30 : Nat) : Int) : Int)) h2) (cj h3 (cj (bnot_f h4) (cj (bnot_f h4) (cj h5 (cj (bnot_f h4) (cj (bnot_f h4) (cj (dlt_f h6) (cj (dlt_f h6) (cj h7 (cj (dlt_f h6) (cj h8 (cj (dlt_f h6) (cj (dlt_f h6) (cj (dle_f h9) (cj (deqN_f h10) (cj (deqN_f h10) (cj (deqN_f h10) (cj (deqN_f h10) (cj (Eq.refl false) (cj (Eq.refl false) (cj (Eq.refl false) (cj (dltN_t h11) (cj (dltN_t h11) (cj (dltN_t h11) (cj (dltN_t h11) (cj (dltN_t h11) (cj (bs_sub h12) (cj (dltN_t h11) (cj (o_at ARat.cells h13 h14) (cj (dltN_t h11) (cj (dltN_t h11) (cj h15 (cj (dltN_t h11) (cj (Eq.refl false) (cj (dltN_t h11) (cj (dle_f h16) (cj (bs_addN h17) True.intro))))))))))))))))))))))))))))))))))))))) (by kernel_rfl) hL
theorem l110 (l : ALaw) (t_30 : Nat) {r : PV} (h1 : l.breaks.length ≤ t_30) (hL : Loop2 l 0 r) : Loop1 l t_30 r :=
  L.go mixed tabOk (n := 153) (ns := [1, 1]) (tr := [.auto, .reg [], .dec false, .reg [.none, .none, (iI (l.pieces.length : Int))], .keep [75, 76, 77], .drop [1]]) (cj (dltN_f h1) (cj (o_len (lcell ARat.cells) l.pieces) True.intro)) (by kernel_rfl) hL
theorem l20 (l : ALaw) (t_77 : Nat) (v : List ARat) (deg : Int) (h1 : t_77 < l.pieces.length) (h2 : l.pieces[t_77]? = some v) (h3 : Contract prg 61 [(polyPV v)] .nilI) (h4 : Contract prg 70 [(polyPV v)] (vI deg)) (h5 : 8 < deg) : Loop2 l t_77 (.iface 57 (vI 4)) :=
  L.done mixed tabOk (n := 219) (ns := [1, 3, 1, 1, 1]) (tr := [.auto, .reg [], .dec true, .reg [(.row t_77 ((lcell ARat.cells) v))], .reg [.none, (.pv .nilI)], .reg [], .auto, .reg [.none, (.pv (vI deg))], .dec true, .reg []]) (cj (dltN_t h1) (cj (o_at (lcell ARat.cells) (Eq.refl (((t_77 : Nat) : Int) : Int)) h2) (cj h3 (cj h4 (cj (dlt_t h5) True.intro))))) (by kernel_rfl)
theorem l21 (l : ALaw) (t_77 : Nat) (v : List ARat) (deg : Int) {r : PV} (h1 : t_77 < l.pieces.length) (h2 : l.pieces[t_77]? = some v) (h3 : Contract prg 61 [(polyPV v)] .nilI) (h4 : Contract prg 70 [(polyPV v)] (vI deg)) (h5 : deg ≤ 8) (h6 : (t_77 + 1) < 9223372036854775808) (hL : Loop2 l (t_77 + 1) r) : Loop2 l t_77 r :=
  L.go mixed tabOk (n := 222) (ns := [1, 3, 1, 1, 1, 1]) (tr := [.auto, .reg [], .dec true, .reg [(.row t_77 ((lcell ARat.cells) v))], .reg [.none, (.pv .nilI)], .reg [], .auto, .reg [.none, (.pv (vI deg))], .dec false, .reg [(iI (((t_77 + 1) : Nat) : Int))], .keep [75, 76, 77]]) (cj (dltN_t h1) (cj (o_at (lcell ARat.cells) (Eq.refl (((t_77 : Nat) : Int) : Int)) h2) (cj h3 (cj h4 (cj (dlt_f h5) (cj (bs_addN h6) True.intro)))))) (by kernel_rfl) hL
theorem l22 (l : ALaw) (t_77 : Nat) (v : List ARat) (che : Int) (h1 : t_77 < l.pieces.length) (h2 : l.pieces[t_77]? = some v) (h3 : Contract prg 61 [(polyPV v)] (.iface 57 (vI che))) : Loop2 l t_77 (.iface 57 (vI che)) :=
  L.done mixed tabOk (n := 207) (ns := [1, 3, 1]) (tr := [.auto, .reg [], .dec true, .reg [(.row t_77 ((lcell ARat.cells) v))], .reg [.none, (.pv (.iface 57 (vI che)))], .reg [], .auto, .reg []]) (cj (dltN_t h1) (cj (o_at (lcell ARat.cells) (Eq.refl (((t_77 : Nat) : Int) : Int)) h2) (cj h3 True.intro))) (by kernel_rfl)
theorem l23 (l : ALaw) (t_77 : Nat) (h1 : l.pieces.length ≤ t_77) : Loop2 l t_77 .nilI :=
  L.done mixed tabOk (n := 186) (ns := [1]) (tr := [.auto, .reg [], .dec false, .reg []]) (cj (dltN_f h1) True.intro) (by kernel_rfl)
end law_Check
namespace linkworkref52_Derive
@[reducible] noncomputable def fn : Func := Tryz.f27
noncomputable def atK1 : List Itm := focus [0, 2, 0, 2, 0, 2, 0, 0, 2, 0, 0] [.code (bodyOf fn)]
def inv1 (i_4 : Nat) (l : ALaw) (site_28 : List (List ARat)) : St := ⟨[(1, (.ptr 1 0)), (2, (.ptr 2 0)), (3, (.ptr 3 0)), (4, (eI (i_4 : Int)))], [(1, (.lit [(.pv (polyPV l.breaks)), (.pv (lpv (lcell ARat.cells) l.pieces))])), (2, (.lit [(.pv (.list [])), (.pv (.list []))])), (3, (.lit [(.row 10 0 l.breaks.length 3), (.row 28 0 site_28.length 1)])), (10, (.pure ((l.breaks : List ARat).map ARat.cells).flatten)), (28, (.pure ((site_28 : List (List ARat)).map (lcell ARat.cells)).flatten))]⟩
@[reducible] noncomputable def Loop1 (i_4 : Nat) (l : ALaw) (site_28 : List (List ARat)) (r : PV) : Prop := L prg fn atK1 (inv1 i_4 l site_28) r
theorem e0 (l : ALaw) {r : PV} (h1 : (([] : List ARat) ++ l.breaks : List ARat).length * 56 ≤ 140737488355328) (hL : Loop1 0 l [] r) : Contract prg 27 [l.pv] r :=
  Contract.ofL Tryz.func27 (by kernel_rfl) (L.go mixed tabOk (n := 93) (ns := [6]) (tr := [.reg [], .reg [.nil], .adoptC 3 0 10 3, .adoptC 3 1 28 1, .reg [.none, .none, .none, .none, (.app (l.breaks : List ARat).length ((l.breaks : List ARat).map ARat.cells).flatten)], .reg [], .keep [1, 2, 3, 4], .ord [1, 2, 3, 10, 28]]) (cj (o_appL sz_ARat ([] : List ARat) (l.breaks : List ARat) 56 (Eq.refl ([] : List ARat).length) h1 rfl) True.intro) (by kernel_rfl) hL)
theorem l10 (i_4 : Nat) (l : ALaw) (site_28 : List (List ARat)) (v der : List ARat) {r : PV} (h1 : i_4 < l.pieces.length) (h2 : l.pieces[i_4]? = some v) (h3 : Contract prg 71 [(polyPV v)] (polyPV der)) (h4 : ((site_28 ++ [der]) : List (List ARat)).length * 24 ≤ 140737488355328) (h5 : (i_4 + 1) < 9223372036854775808) (hL : Loop1 (i_4 + 1) l (site_28 ++ [der]) r) : Loop1 i_4 l site_28 r :=
  L.go mixed tabOk (n := 126) (ns := [1, 1, 3, 1, 6, 1]) (tr := [.auto, .reg [.none, .none, .none, (iI (l.pieces.length : Int))], .dec true, dr 9 3 [.none, .none, .none, .none, .none, (.row i_4 ((lcell ARat.cells) v)), .none, (.pv (polyPV der)), .none, (.app ((site_28 ++ [der]) : List (List ARat)).length (((site_28 ++ [der]) : List (List ARat)).map (lcell ARat.cells)).flatten)], .reg [.none, (iI (((i_4 + 1) : Nat) : Int))], .keep [1, 2, 3, 4], .drop [27], .ord [1, 2, 3, 10, 28]]) (cj (o_len (lcell ARat.cells) l.pieces) (cj (dltN_t h1) (cj (o_at (lcell ARat.cells) (Eq.refl (((i_4 : Nat) : Int) : Int)) h2) (cj h3 (cj (o_appR (sz_l ARat.cells) (site_28 : List (List ARat)) ([der] : List (List ARat)) 24 (Eq.refl (site_28 : List (List ARat)).length) (Eq.refl ([der] : List (List ARat)).length) h4 rfl) (cj (bs_addN h5) True.intro)))))) (by kernel_rfl) hL
theorem l11 (i_4 : Nat) (l : ALaw) (site_28 : List (List ARat)) (h1 : l.pieces.length ≤ i_4) : Loop1 i_4 l site_28 ((⟨l.breaks, site_28⟩ : ALaw).pv) :=
  L.done mixed tabOk (n := 126) (ns := [1, 1, 3, 3]) (tr := [.auto, .reg [.none, .none, .none, (iI (l.pieces.length : Int))], .dec false, .frzC 3 0 ((l.breaks : List ARat).map ARat.cells), .frzC 3 1 ((site_28 : List (List ARat)).map (lcell ARat.cells)), .reg []]) (cj (o_len (lcell ARat.cells) l.pieces) (cj (dltN_f h1) (cj (o_frz sz_ARat (l.breaks : List ARat) (Eq.refl (l.breaks : List ARat).length)) (cj (o_frz (sz_l ARat.cells) (site_28 : List (List ARat)) (Eq.refl (site_28 : List (List ARat)).length)) True.intro)))) (by kernel_rfl)
end linkworkref52_Derive
namespace law_Bounds
@[reducible] noncomputable def fn : Func := Tryz.f34
noncomputable def atK1 : List Itm := focus [0, 2, 0, 0, 2, 0, 2, 1, 2, 0, 2, 0, 0, 2, 0, 0] [.code (bodyOf fn)]
def inv1 (l : ALaw) (t_19 : Nat) (site_5 : ARange) : St := ⟨[(1, (.ptr 1 0)), (2, (.ptr 2 0)), (5, (.ptr 5 0)), (17, (.pv (lpv (lcell ARat.cells) l.pieces))), (18, (eI (l.pieces.length : Int))), (19, (eI (t_19 : Int)))], [(1, (.lit [(.pv (polyPV l.breaks)), (.pv (lpv (lcell ARat.cells) l.pieces))])), (2, (.lit [(eB false), (.pv (.list [])), (.pv (.list [])), (eB false), (.pv (.list [])), (.pv (.list []))])), (5, (.lit [(eB site_5.lo.neg), (.pv (wordsPV site_5.lo.num)), (.pv (wordsPV site_5.lo.den)), (eB site_5.hi.neg), (.pv (wordsPV site_5.hi.num)), (.pv (wordsPV site_5.hi.den))]))]⟩
@[reducible] noncomputable def Loop1 (l : ALaw) (t_19 : Nat) (site_5 : ARange) (r : PV) : Prop := L prg fn atK1 (inv1 l t_19 site_5) r
theorem e0 (l : ALaw) {r : PV} (h1 : Contract prg 24 [l.pv] .nilI) (hL : Loop1 l 0 (⟨(⟨false, [], []⟩ : ARat), (⟨false, [], []⟩ : ARat)⟩ : ARange) r) : Contract prg 34 [l.pv] r :=
  Contract.ofL Tryz.func34 (by kernel_rfl) (L.go mixed tabOk (n := 108) (ns := [1, 1]) (tr := [.reg [], .reg [.none, (.pv .nilI)], .reg [], .auto, .reg [], .reg [.none, .none, (iI (l.pieces.length : Int))], .keep [1, 2, 5, 17, 18, 19], .ord [1, 2, 5]]) (cj h1 (cj (o_len (lcell ARat.cells) l.pieces) True.intro)) (by kernel_rfl) hL)
theorem e1 (l : ALaw) (che : Int) (h1 : Contract prg 24 [l.pv] (.iface 57 (vI che))) : Contract prg 34 [l.pv] (.tup [(⟨(⟨false, [], []⟩ : ARat), (⟨false, [], []⟩ : ARat)⟩ : ARange).pv, (.iface 57 (vI che))]) :=
  Contract.ofL Tryz.func34 (by kernel_rfl) (L.done mixed tabOk (n := 90) (ns := [1]) (tr := [.reg [], .reg [.none, (.pv (.iface 57 (vI che)))], .reg [], .auto, .reg []]) (cj h1 True.intro) (by kernel_rfl))
theorem l10 (l : ALaw) (t_19 : Nat) (site_5 : ARange) (v : List ARat) (len : ARat) (ove hul : ARange) {r : PV} (h1 : t_19 < l.pieces.length) (h2 : l.pieces[t_19]? = some v) (h3 : Contract prg 85 [l.pv, (vI (t_19 : Int))] len.pv) (h4 : Contract prg 84 [(polyPV v), (⟨(⟨false, [], []⟩ : ARat), len⟩ : ARange).pv] (.tup [ove.pv, .nilI])) (h5 : t_19 = 0) (h6 : Contract prg 86 [ove.pv, ove.pv] hul.pv) (h7 : (t_19 + 1) < 9223372036854775808) (hL : Loop1 l (t_19 + 1) hul r) : Loop1 l t_19 site_5 r :=
  L.go mixed tabOk (n := 183) (ns := [1, 3, 1, 1, 1, 1, 1]) (tr := [.auto, .reg [], .dec true, .reg [.none, (.row t_19 ((lcell ARat.cells) v))], .reg [.none, .none, .none, (.pv len.pv), .none, (.pv (.tup [ove.pv, .nilI]))], .reg [], .auto, .reg [], .dec true, .reg [], .reg [.none, .none, (.pv hul.pv)], .reg [(iI (((t_19 + 1) : Nat) : Int))], .keep [1, 2, 5, 17, 18, 19], .drop [8]]) (cj (dltN_t h1) (cj (o_at (lcell ARat.cells) (Eq.refl (((t_19 : Nat) : Int) : Int)) h2) (cj h3 (cj h4 (cj (deqN_t h5) (cj h6 (cj (bs_addN h7) True.intro))))))) (by kernel_rfl) hL
theorem l11 (l : ALaw) (t_19 : Nat) (site_5 : ARange) (v : List ARat) (len : ARat) (ove hul : ARange) {r : PV} (h1 : t_19 < l.pieces.length) (h2 : l.pieces[t_19]? = some v) (h3 : Contract prg 85 [l.pv, (vI (t_19 : Int))] len.pv) (h4 : Contract prg 84 [(polyPV v), (⟨(⟨false, [], []⟩ : ARat), len⟩ : ARange).pv] (.tup [ove.pv, .nilI])) (h5 : t_19 ≠ 0) (h6 : Contract prg 86 [site_5.pv, ove.pv] hul.pv) (h7 : (t_19 + 1) < 9223372036854775808) (hL : Loop1 l (t_19 + 1) hul r) : Loop1 l t_19 site_5 r :=
  L.go mixed tabOk (n := 183) (ns := [1, 3, 1, 1, 1, 1, 1]) (tr := [.auto, .reg [], .dec true, .reg [.none, (.row t_19 ((lcell ARat.cells) v))], .reg [.none, .none, .none, (.pv len.pv), .none, (.pv (.tup [ove.pv, .nilI]))], .reg [], .auto, .reg [], .dec false, .reg [.none, .none, (.pv hul.pv)], .reg [(iI (((t_19 + 1) : Nat) : Int))], .keep [1, 2, 5, 17, 18, 19], .drop [8]]) (cj (dltN_t h1) (cj (o_at (lcell ARat.cells) (Eq.refl (((t_19 : Nat) : Int) : Int)) h2) (cj h3 (cj h4 (cj (deqN_f h5) (cj h6 (cj (bs_addN h7) True.intro))))))) (by kernel_rfl) hL
theorem l13 (l : ALaw) (t_19 : Nat) (site_5 : ARange) (h1 : l.pieces.length ≤ t_19) : Loop1 l t_19 site_5 (.tup [site_5.pv, .nilI]) :=
  L.done mixed tabOk (n := 141) (ns := [1]) (tr := [.auto, .reg [], .dec false, .reg []]) (cj (dltN_f h1) True.intro) (by kernel_rfl)
end law_Bounds
namespace law_Dwells
@[reducible] noncomputable def fn : Func := Tryz.f35
noncomputable def atK1 : List Itm := focus [0, 2, 0, 0, 2, 0, 2, 1, 2, 0, 2, 0, 2, 0, 0, 2, 0, 0] [.code (bodyOf fn)]
def inv1 (len_62 : Nat) (open_6 : Bool) (l : ALaw) (t_17 : Nat) (site_62 : List AArc) : St := ⟨[(1, (.ptr 1 0)), (5, (.row 62 0 len_62 6)), (6, (eB open_6)), (15, (.pv (lpv (lcell ARat.cells) l.pieces))), (16, (eI (l.pieces.length : Int))), (17, (eI (t_17 : Int)))], [(1, (.lit [(.pv (polyPV l.breaks)), (.pv (lpv (lcell ARat.cells) l.pieces))])), (62, (.pure ((site_62 : List AArc).map AArc.cells).flatten))]⟩
@[reducible] noncomputable def Loop1 (len_62 : Nat) (open_6 : Bool) (l : ALaw) (t_17 : Nat) (site_62 : List AArc) (r : PV) : Prop := L prg fn atK1 (inv1 len_62 open_6 l t_17 site_62) r
theorem e0 (l : ALaw) {r : PV} (h1 : Contract prg 24 [l.pv] .nilI) (hL : Loop1 0 false l 0 [] r) : Contract prg 35 [l.pv] r :=
  Contract.ofL Tryz.func35 (by kernel_rfl) (L.go mixed tabOk (n := 114) (ns := [1, 1]) (tr := [.reg [], .reg [.none, (.pv .nilI)], .reg [], .auto, .reg [.nil], .adopt 5 62 6, .reg [], .reg [.none, .none, (iI (l.pieces.length : Int))], .keep [1, 5, 6, 15, 16, 17], .ord [1, 62]]) (cj h1 (cj (o_len (lcell ARat.cells) l.pieces) True.intro)) (by kernel_rfl) hL)
theorem e1 (l : ALaw) (che : Int) (h1 : Contract prg 24 [l.pv] (.iface 57 (vI che))) : Contract prg 35 [l.pv] (.tup [(lpv AArc.cells []), (.iface 57 (vI che))]) :=
  Contract.ofL Tryz.func35 (by kernel_rfl) (L.done mixed tabOk (n := 90) (ns := [1]) (tr := [.reg [], .reg [.none, (.pv (.iface 57 (vI che)))], .reg [], .auto, .reg []]) (cj h1 True.intro) (by kernel_rfl))
theorem l10 (len_62 : Nat) (open_6 : Bool) (l : ALaw) (t_17 : Nat) (site_62 : List AArc) (v : List ARat) {r : PV} (h1 : t_17 < l.pieces.length) (h2 : l.pieces[t_17]? = some v) (h3 : 1 < v.length) (h4 : (t_17 + 1) < 9223372036854775808) (hL : Loop1 len_62 false l (t_17 + 1) site_62 r) : Loop1 len_62 open_6 l t_17 site_62 r :=
  L.go mixed tabOk (n := 174) (ns := [1, 3, 1, 1, 1]) (tr := [.auto, .reg [], .dec true, .reg [.none, (.row t_17 ((lcell ARat.cells) v))], .reg [.none, (iI (v.length : Int))], .dec true, .reg [], .reg [(iI (((t_17 + 1) : Nat) : Int))], .keep [1, 5, 6, 15, 16, 17]]) (cj (dltN_t h1) (cj (o_at (lcell ARat.cells) (Eq.refl (((t_17 : Nat) : Int) : Int)) h2) (cj (o_len ARat.cells v) (cj (dltN_t h3) (cj (bs_addN h4) True.intro))))) (by kernel_rfl) hL
theorem l11 (len_62 : Nat) (open_6 : Bool) (l : ALaw) (t_17 : Nat) (site_62 : List AArc) (v : List ARat) (k : Nat) (v1 : List ARat) (sam : Bool) (endV add : ARat) (k1 : Nat) (v2 : AArc) {r : PV} (h1 : t_17 < l.pieces.length) (h2 : l.pieces[t_17]? = some v) (h3 : v.length ≤ 1) (h4 : open_6 = true) (h5 : InI64 ((t_17 : Int) - 1)) (h6 : ((t_17 : Int) - 1) = (k : Int)) (h7 : l.pieces[k]? = some v1) (h8 : Contract prg 87 [(polyPV v1), (polyPV v)] (vB sam)) (h9 : sam = true) (h10 : InI64 ((len_62 : Int) - 1)) (h11 : Contract prg 88 [l.pv, (vI (t_17 : Int))] endV.pv) (h12 : Contract prg 32 [endV.pv, (⟨false, [], []⟩ : ARat).pv] add.pv) (h13 : ((len_62 : Int) - 1) = (k1 : Int)) (h14 : k1 < len_62) (h15 : site_62[k1]? = some v2) (h16 : (t_17 + 1) < 9223372036854775808) (hL : Loop1 len_62 true l (t_17 + 1) (site_62.set k1 (⟨v2.fromV, add⟩ : AArc)) r) : Loop1 len_62 open_6 l t_17 site_62 r :=
  L.go mixed tabOk (n := 183) (ns := [1, 3, 1, 1, 1, 1, 1, 1, 1, 1, 3, 1, 1, 1, 1, 1, 1, 1, 1, 1, 2, 2, 1]) (tr := [.auto, .reg [], .dec true, .reg [.none, (.row t_17 ((lcell ARat.cells) v))], .reg [.none, (iI (v.length : Int))], .dec false, .reg [.none, .none, .none, .none, .none, (iI ((t_17 : Int) - 1)), (.row k ((lcell ARat.cells) v1)), .none, .none, (.pv (vB sam)), (.dec true)], .dec true, .reg [.none, .none, .none, (iI ((len_62 : Int) - 1)), .none, .none, (.pv endV.pv), .none, (.pv add.pv), (.nat k1), .none, (.cells (.pure (((site_62.set k1 (⟨v2.fromV, add⟩ : AArc)) : List AArc).map AArc.cells).flatten))], .reg [], .reg [(iI (((t_17 + 1) : Nat) : Int))], .keep [1, 5, 6, 15, 16, 17]]) (cj (dltN_t h1) (cj (o_at (lcell ARat.cells) (Eq.refl (((t_17 : Nat) : Int) : Int)) h2) (cj (o_len ARat.cells v) (cj (dltN_f h3) (cj h4 (cj h4 (cj h4 (cj h4 (cj (bs_sub h5) (cj h4 (cj (o_at (lcell ARat.cells) h6 h7) (cj h4 (cj h4 (cj h4 (cj h8 (cj h4 (cj h9 (cj (bs_sub h10) (cj h11 (cj h12 (cj (cj h13 h14) (cj (o_setp sz_AArc h15 3 [(vB add.neg), (wordsPV add.num), (wordsPV add.den)] (⟨v2.fromV, add⟩ : AArc) rfl rfl) (cj (bs_addN h16) True.intro))))))))))))))))))))))) (by kernel_rfl) hL
theorem l12 (len_62 : Nat) (open_6 : Bool) (l : ALaw) (t_17 : Nat) (site_62 : List AArc) (v : List ARat) (k : Nat) (v1 : List ARat) (sam : Bool) (v2 add endV add1 : ARat) {r : PV} (h1 : t_17 < l.pieces.length) (h2 : l.pieces[t_17]? = some v) (h3 : v.length ≤ 1) (h4 : open_6 = true) (h5 : InI64 ((t_17 : Int) - 1)) (h6 : ((t_17 : Int) - 1) = (k : Int)) (h7 : l.pieces[k]? = some v1) (h8 : Contract prg 87 [(polyPV v1), (polyPV v)] (vB sam)) (h9 : sam = false) (h10 : l.breaks[t_17]? = some v2) (h11 : Contract prg 32 [v2.pv, (⟨false, [], []⟩ : ARat).pv] add.pv) (h12 : Contract prg 88 [l.pv, (vI (t_17 : Int))] endV.pv) (h13 : Contract prg 32 [endV.pv, (⟨false, [], []⟩ : ARat).pv] add1.pv) (h14 : site_62.length = len_62) (h15 : ((site_62 ++ [(⟨add, add1⟩ : AArc)]) : List AArc).length * 112 ≤ 140737488355328) (h16 : (t_17 + 1) < 9223372036854775808) (hL : Loop1 ((site_62 ++ [(⟨add, add1⟩ : AArc)]).length) true l (t_17 + 1) (site_62 ++ [(⟨add, add1⟩ : AArc)]) r) : Loop1 len_62 open_6 l t_17 site_62 r :=
  L.go mixed tabOk (n := 183) (ns := [1, 3, 1, 1, 1, 1, 1, 1, 1, 1, 3, 1, 1, 1, 1, 1, 1, 3, 1, 1, 1, 6, 1]) (tr := [.auto, .reg [], .dec true, .reg [.none, (.row t_17 ((lcell ARat.cells) v))], .reg [.none, (iI (v.length : Int))], .dec false, .reg [.none, .none, .none, .none, .none, (iI ((t_17 : Int) - 1)), (.row k ((lcell ARat.cells) v1)), .none, .none, (.pv (vB sam)), (.dec true)], .dec false, dr 15 2 [.none, .none, .none, .none, (.row t_17 (ARat.cells v2)), .none, .none, (.pv add.pv), .none, .none, (.pv endV.pv), .none, (.pv add1.pv), .none, .none, (.app ((site_62 ++ [(⟨add, add1⟩ : AArc)]) : List AArc).length (((site_62 ++ [(⟨add, add1⟩ : AArc)]) : List AArc).map AArc.cells).flatten)], .reg [], .reg [(iI (((t_17 + 1) : Nat) : Int))], .keep [1, 5, 6, 15, 16, 17], .drop [61], .ord [1, 62]]) (cj (dltN_t h1) (cj (o_at (lcell ARat.cells) (Eq.refl (((t_17 : Nat) : Int) : Int)) h2) (cj (o_len ARat.cells v) (cj (dltN_f h3) (cj h4 (cj h4 (cj h4 (cj h4 (cj (bs_sub h5) (cj h4 (cj (o_at (lcell ARat.cells) h6 h7) (cj h4 (cj h4 (cj h4 (cj h8 (cj h4 (cj h9 (cj (o_at ARat.cells (Eq.refl (((t_17 : Nat) : Int) : Int)) h10) (cj h11 (cj h12 (cj h13 (cj (o_appR sz_AArc (site_62 : List AArc) ([(⟨add, add1⟩ : AArc)] : List AArc) 112 h14 (Eq.refl ([(⟨add, add1⟩ : AArc)] : List AArc).length) h15 rfl) (cj (bs_addN h16) True.intro))))))))))))))))))))))) (by kernel_rfl) hL
theorem l13 (len_62 : Nat) (open_6 : Bool) (l : ALaw) (t_17 : Nat) (site_62 : List AArc) (v : List ARat) (v1 add endV add1 : ARat) {r : PV} (h1 : t_17 < l.pieces.length) (h2 : l.pieces[t_17]? = some v) (h3 : v.length ≤ 1) (h4 : open_6 = false) (h5 : l.breaks[t_17]? = some v1) (h6 : Contract prg 32 [v1.pv, (⟨false, [], []⟩ : ARat).pv] add.pv) (h7 : Contract prg 88 [l.pv, (vI (t_17 : Int))] endV.pv) (h8 : Contract prg 32 [endV.pv, (⟨false, [], []⟩ : ARat).pv] add1.pv) (h9 : site_62.length = len_62) (h10 : ((site_62 ++ [(⟨add, add1⟩ : AArc)]) : List AArc).length * 112 ≤ 140737488355328) (h11 : (t_17 + 1) < 9223372036854775808) (hL : Loop1 ((site_62 ++ [(⟨add, add1⟩ : AArc)]).length) true l (t_17 + 1) (site_62 ++ [(⟨add, add1⟩ : AArc)]) r) : Loop1 len_62 open_6 l t_17 site_62 r :=
  L.go mixed tabOk (n := 183) (ns := [1, 3, 1, 1, 1, 1, 1, 1, 1, 1, 1, 1, 1, 3, 1, 1, 1, 6, 1]) (tr := [.auto, .reg [], .dec true, .reg [.none, (.row t_17 ((lcell ARat.cells) v))], .reg [.none, (iI (v.length : Int))], .dec false, .reg [.none, .none, .skip, .skip, .skip, .skip, .skip, .skip, .skip, .skip, (.dec false)], .auto, dr 15 2 [.none, .none, .none, .none, (.row t_17 (ARat.cells v1)), .none, .none, (.pv add.pv), .none, .none, (.pv endV.pv), .none, (.pv add1.pv), .none, .none, (.app ((site_62 ++ [(⟨add, add1⟩ : AArc)]) : List AArc).length (((site_62 ++ [(⟨add, add1⟩ : AArc)]) : List AArc).map AArc.cells).flatten)], .reg [], .reg [(iI (((t_17 + 1) : Nat) : Int))], .keep [1, 5, 6, 15, 16, 17], .drop [61], .ord [1, 62]]) (cj (dltN_t h1) (cj (o_at (lcell ARat.cells) (Eq.refl (((t_17 : Nat) : Int) : Int)) h2) (cj (o_len ARat.cells v) (cj (dltN_f h3) (cj h4 (cj h4 (cj h4 (cj h4 (cj h4 (cj h4 (cj h4 (cj h4 (cj h4 (cj (o_at ARat.cells (Eq.refl (((t_17 : Nat) : Int) : Int)) h5) (cj h6 (cj h7 (cj h8 (cj (o_appR sz_AArc (site_62 : List AArc) ([(⟨add, add1⟩ : AArc)] : List AArc) 112 h9 (Eq.refl ([(⟨add, add1⟩ : AArc)] : List AArc).length) h10 rfl) (cj (bs_addN h11) True.intro))))))))))))))))))) (by kernel_rfl) hL
theorem l14 (len_62 : Nat) (open_6 : Bool) (l : ALaw) (t_17 : Nat) (site_62 : List AArc) (h1 : l.pieces.length ≤ t_17) (h2 : len_62 = site_62.length) : Loop1 len_62 open_6 l t_17 site_62 (.tup [(lpv AArc.cells site_62), .nilI]) :=
  L.done mixed tabOk (n := 147) (ns := [1, 3]) (tr := [.auto, .reg [], .dec false, .reg [], .frzT 2 ((site_62 : List AArc).map AArc.cells)]) (cj (dltN_f h1) (cj (o_frz sz_AArc (site_62 : List AArc) h2) True.intro)) (by kernel_rfl)
end law_Dwells
namespace law_Smooth
@[reducible] noncomputable def fn : Func := Tryz.f40
noncomputable def atK1 : List Itm := focus [0, 2, 0, 0, 2, 0, 2, 1, 2, 0, 0, 2, 1, 2, 0, 0, 2, 0, 0] [.code (bodyOf fn)]
def inv1 (k : Int) (t_23 : Nat) (site_2 : ALaw) : St := ⟨[(2, (.ptr 2 0)), (22, (eI (k + 1))), (23, (eI (t_23 : Int)))], [(2, (.lit [(.pv (polyPV site_2.breaks)), (.pv (lpv (lcell ARat.cells) site_2.pieces))]))]⟩
@[reducible] noncomputable def Loop1 (k : Int) (t_23 : Nat) (site_2 : ALaw) (r : PV) : Prop := L prg fn atK1 (inv1 k t_23 site_2) r
theorem e0 (l : ALaw) (k : Int) (h1 : Contract prg 24 [l.pv] .nilI) (h2 : k < 0) : Contract prg 40 [l.pv, (vI k)] (.tup [(vB false), (.iface 57 (vI 3))]) :=
  Contract.ofL Tryz.func40 (by kernel_rfl) (L.done mixed tabOk (n := 105) (ns := [1, 1, 1, 1]) (tr := [.reg [], .reg [.none, (.pv .nilI)], .reg [], .auto, .reg [.none, .none, .none, .skip, .skip, (.dec true)], .auto, .reg []]) (cj h1 (cj (dlt_t h2) (cj (dlt_t h2) (cj (dlt_t h2) True.intro)))) (by kernel_rfl))
theorem e1 (l : ALaw) (k : Int) (h1 : Contract prg 24 [l.pv] .nilI) (h2 : 0 ≤ k) (h3 : 8 < k) : Contract prg 40 [l.pv, (vI k)] (.tup [(vB false), (.iface 57 (vI 3))]) :=
  Contract.ofL Tryz.func40 (by kernel_rfl) (L.done mixed tabOk (n := 105) (ns := [1, 1, 1, 1, 1]) (tr := [.reg [], .reg [.none, (.pv .nilI)], .reg [], .auto, .reg [.none, .none, .none, .none, .none, (.dec false)], .dec true, .reg []]) (cj h1 (cj (dlt_f h2) (cj (dlt_f h2) (cj (dlt_f h2) (cj (dlt_t h3) True.intro))))) (by kernel_rfl))
theorem e2 (l : ALaw) (k : Int) {r : PV} (h1 : Contract prg 24 [l.pv] .nilI) (h2 : 0 ≤ k) (h3 : k ≤ 8) (h4 : InI64 (k + 1)) (hL : Loop1 k 0 l r) : Contract prg 40 [l.pv, (vI k)] r :=
  Contract.ofL Tryz.func40 (by kernel_rfl) (L.go mixed tabOk (n := 117) (ns := [1, 1, 1, 1, 1, 1]) (tr := [.reg [], .reg [.none, (.pv .nilI)], .reg [], .auto, .reg [.none, .none, .none, .none, .none, (.dec false)], .dec false, .reg [.none, (iI (k + 1))], .keep [2, 22, 23]]) (cj h1 (cj (dlt_f h2) (cj (dlt_f h2) (cj (dlt_f h2) (cj (dlt_f h3) (cj (bs_add h4) True.intro)))))) (by kernel_rfl) hL)
theorem e3 (l : ALaw) (k che : Int) (h1 : Contract prg 24 [l.pv] (.iface 57 (vI che))) : Contract prg 40 [l.pv, (vI k)] (.tup [(vB false), (.iface 57 (vI che))]) :=
  Contract.ofL Tryz.func40 (by kernel_rfl) (L.done mixed tabOk (n := 90) (ns := [1]) (tr := [.reg [], .reg [.none, (.pv (.iface 57 (vI che)))], .reg [], .auto, .reg []]) (cj h1 True.intro) (by kernel_rfl))
theorem l10 (k : Int) (t_23 : Nat) (site_2 : ALaw) (joi : Bool) (h1 : (t_23 : Int) < (k + 1)) (h2 : Contract prg 95 [site_2.pv] (.tup [(vB joi), .nilI])) (h3 : joi = false) : Loop1 k t_23 site_2 (.tup [(vB false), .nilI]) :=
  L.done mixed tabOk (n := 165) (ns := [1, 1, 1, 1, 1]) (tr := [.auto, .reg [], .dec true, .reg [.none, (.pv (.tup [(vB joi), .nilI]))], .reg [], .dec true, .reg []]) (cj (dlt_t h1) (cj h2 (cj (Eq.refl false) (cj (Eq.refl false) (cj (bnot_t h3) True.intro))))) (by kernel_rfl)
theorem l11 (k : Int) (t_23 : Nat) (site_2 : ALaw) (joi : Bool) (der : ALaw) {r : PV} (h1 : (t_23 : Int) < (k + 1)) (h2 : Contract prg 95 [site_2.pv] (.tup [(vB joi), .nilI])) (h3 : joi = true) (h4 : Contract prg 22 [site_2.pv] (.tup [der.pv, .nilI])) (h5 : (t_23 + 1) < 9223372036854775808) (hL : Loop1 k (t_23 + 1) der r) : Loop1 k t_23 site_2 r :=
  L.go mixed tabOk (n := 186) (ns := [1, 1, 1, 1, 1, 1, 1]) (tr := [.auto, .reg [], .dec true, .reg [.none, (.pv (.tup [(vB joi), .nilI]))], .reg [], .dec false, .reg [.none, (.pv (.tup [der.pv, .nilI]))], .reg [], .auto, .reg [(iI (((t_23 + 1) : Nat) : Int))], .keep [2, 22, 23]]) (cj (dlt_t h1) (cj h2 (cj (Eq.refl false) (cj (Eq.refl false) (cj (bnot_f h3) (cj h4 (cj (bs_addN h5) True.intro))))))) (by kernel_rfl) hL
theorem l14 (k : Int) (t_23 : Nat) (site_2 : ALaw) (h1 : (k + 1) ≤ (t_23 : Int)) : Loop1 k t_23 site_2 (.tup [(vB true), .nilI]) :=
  L.done mixed tabOk (n := 150) (ns := [1]) (tr := [.auto, .reg [], .dec false, .reg []]) (cj (dlt_f h1) True.intro) (by kernel_rfl)
end law_Smooth
namespace linkworkref52_Bounds
@[reducible] noncomputable def fn : Func := Tryz.f41
noncomputable def atK1 : List Itm := focus [0, 2, 0, 2, 0, 0, 2, 0, 0] [.code (bodyOf fn)]
def inv1 (i_4 : Nat) (l : ALaw) (site_3 : ARange) : St := ⟨[(1, (.ptr 1 0)), (2, (.ptr 2 0)), (3, (.ptr 3 0)), (4, (eI (i_4 : Int)))], [(1, (.lit [(.pv (polyPV l.breaks)), (.pv (lpv (lcell ARat.cells) l.pieces))])), (2, (.lit [(eB false), (.pv (.list [])), (.pv (.list [])), (eB false), (.pv (.list [])), (.pv (.list []))])), (3, (.lit [(eB site_3.lo.neg), (.pv (wordsPV site_3.lo.num)), (.pv (wordsPV site_3.lo.den)), (eB site_3.hi.neg), (.pv (wordsPV site_3.hi.num)), (.pv (wordsPV site_3.hi.den))]))]⟩
@[reducible] noncomputable def Loop1 (i_4 : Nat) (l : ALaw) (site_3 : ARange) (r : PV) : Prop := L prg fn atK1 (inv1 i_4 l site_3) r
theorem e0 (l : ALaw) {r : PV}  (hL : Loop1 0 l (⟨(⟨false, [], []⟩ : ARat), (⟨false, [], []⟩ : ARat)⟩ : ARange) r) : Contract prg 41 [l.pv] r :=
  Contract.ofL Tryz.func41 (by kernel_rfl) (L.go mixed tabOk (n := 87) (ns := []) (tr := [.reg [], .reg [], .reg [], .keep [1, 2, 3, 4], .ord [1, 2, 3]]) True.intro (by kernel_rfl) hL)
theorem l10 (i_4 : Nat) (l : ALaw) (site_3 : ARange) (v : List ARat) (endV v1 sub : ARat) (ove : ARange) (ove1 : Int) (hul : ARange) {r : PV} (h1 : i_4 < l.pieces.length) (h2 : l.pieces[i_4]? = some v) (h3 : Contract prg 97 [l.pv, (vI (i_4 : Int))] endV.pv) (h4 : l.breaks[i_4]? = some v1) (h5 : Contract prg 56 [endV.pv, v1.pv] sub.pv) (h6 : Contract prg 96 [(polyPV v), (⟨(⟨false, [], []⟩ : ARat), sub⟩ : ARange).pv] (.tup [ove.pv, (vI ove1)])) (h7 : i_4 = 0) (h8 : Contract prg 98 [ove.pv, ove.pv] hul.pv) (h9 : (i_4 + 1) < 9223372036854775808) (hL : Loop1 (i_4 + 1) l hul r) : Loop1 i_4 l site_3 r :=
  L.go mixed tabOk (n := 141) (ns := [1, 1, 3, 1, 3, 1, 1, 1, 1, 1]) (tr := [.auto, .reg [.none, .none, .none, (iI (l.pieces.length : Int))], .dec true, dr 21 1 [.none, .none, .none, (.row i_4 ((lcell ARat.cells) v)), .none, .none, .none, (.pv endV.pv), .none, .none, .none, (.row i_4 (ARat.cells v1)), .none, (.pv sub.pv), .none, (.pv (.tup [ove.pv, (vI ove1)]))], .reg [], .dec true, .reg [], .reg [.none, .none, (.pv hul.pv)], .reg [.none, (iI (((i_4 + 1) : Nat) : Int))], .keep [1, 2, 3, 4], .drop [5]]) (cj (o_len (lcell ARat.cells) l.pieces) (cj (dltN_t h1) (cj (o_at (lcell ARat.cells) (Eq.refl (((i_4 : Nat) : Int) : Int)) h2) (cj h3 (cj (o_at ARat.cells (Eq.refl (((i_4 : Nat) : Int) : Int)) h4) (cj h5 (cj h6 (cj (deqN_t h7) (cj h8 (cj (bs_addN h9) True.intro)))))))))) (by kernel_rfl) hL
theorem l11 (i_4 : Nat) (l : ALaw) (site_3 : ARange) (v : List ARat) (endV v1 sub : ARat) (ove : ARange) (ove1 : Int) (hul : ARange) {r : PV} (h1 : i_4 < l.pieces.length) (h2 : l.pieces[i_4]? = some v) (h3 : Contract prg 97 [l.pv, (vI (i_4 : Int))] endV.pv) (h4 : l.breaks[i_4]? = some v1) (h5 : Contract prg 56 [endV.pv, v1.pv] sub.pv) (h6 : Contract prg 96 [(polyPV v), (⟨(⟨false, [], []⟩ : ARat), sub⟩ : ARange).pv] (.tup [ove.pv, (vI ove1)])) (h7 : i_4 ≠ 0) (h8 : Contract prg 98 [site_3.pv, ove.pv] hul.pv) (h9 : (i_4 + 1) < 9223372036854775808) (hL : Loop1 (i_4 + 1) l hul r) : Loop1 i_4 l site_3 r :=
  L.go mixed tabOk (n := 141) (ns := [1, 1, 3, 1, 3, 1, 1, 1, 1, 1]) (tr := [.auto, .reg [.none, .none, .none, (iI (l.pieces.length : Int))], .dec true, dr 21 1 [.none, .none, .none, (.row i_4 ((lcell ARat.cells) v)), .none, .none, .none, (.pv endV.pv), .none, .none, .none, (.row i_4 (ARat.cells v1)), .none, (.pv sub.pv), .none, (.pv (.tup [ove.pv, (vI ove1)]))], .reg [], .dec false, .reg [.none, .none, (.pv hul.pv)], .reg [.none, (iI (((i_4 + 1) : Nat) : Int))], .keep [1, 2, 3, 4], .drop [5]]) (cj (o_len (lcell ARat.cells) l.pieces) (cj (dltN_t h1) (cj (o_at (lcell ARat.cells) (Eq.refl (((i_4 : Nat) : Int) : Int)) h2) (cj h3 (cj (o_at ARat.cells (Eq.refl (((i_4 : Nat) : Int) : Int)) h4) (cj h5 (cj h6 (cj (deqN_f h7) (cj h8 (cj (bs_addN h9) True.intro)))))))))) (by kernel_rfl) hL
theorem l12 (i_4 : Nat) (l : ALaw) (site_3 : ARange) (h1 : l.pieces.length ≤ i_4) : Loop1 i_4 l site_3 site_3.pv :=
  L.done mixed tabOk (n := 120) (ns := [1, 1]) (tr := [.auto, .reg [.none, .none, .none, (iI (l.pieces.length : Int))], .dec false, .reg []]) (cj (o_len (lcell ARat.cells) l.pieces) (cj (dltN_f h1) True.intro)) (by kernel_rfl)
end linkworkref52_Bounds
namespace linkworkref52_Dwells
@[reducible] noncomputable def fn : Func := Tryz.f43
noncomputable def atK1 : List Itm := focus [0, 2, 0, 2, 0, 0, 2, 0, 0] [.code (bodyOf fn)]
def inv1 (len_68 i_4 : Nat) (l : ALaw) (site_68 : List AArc) : St := ⟨[(1, (.ptr 1 0)), (3, (.row 68 0 len_68 6)), (4, (eI (i_4 : Int)))], [(1, (.lit [(.pv (polyPV l.breaks)), (.pv (lpv (lcell ARat.cells) l.pieces))])), (68, (.pure ((site_68 : List AArc).map AArc.cells).flatten))]⟩
@[reducible] noncomputable def Loop1 (len_68 i_4 : Nat) (l : ALaw) (site_68 : List AArc) (r : PV) : Prop := L prg fn atK1 (inv1 len_68 i_4 l site_68) r
theorem e0 (l : ALaw) {r : PV}  (hL : Loop1 0 0 l [] r) : Contract prg 43 [l.pv] r :=
  Contract.ofL Tryz.func43 (by kernel_rfl) (L.go mixed tabOk (n := 87) (ns := []) (tr := [.reg [], .reg [.nil], .adopt 3 68 6, .reg [], .keep [1, 3, 4], .ord [1, 68]]) True.intro (by kernel_rfl) hL)
theorem l10 (len_68 i_4 : Nat) (l : ALaw) (site_68 : List AArc) (v : List ARat) {r : PV} (h1 : i_4 < l.pieces.length) (h2 : l.pieces[i_4]? = some v) (h3 : 1 < v.length) (h4 : (i_4 + 1) < 9223372036854775808) (hL : Loop1 len_68 (i_4 + 1) l site_68 r) : Loop1 len_68 i_4 l site_68 r :=
  L.go mixed tabOk (n := 135) (ns := [1, 1, 3, 1, 1, 1]) (tr := [.auto, .reg [.none, .none, .none, (iI (l.pieces.length : Int))], .dec true, .reg [.none, .none, .none, (.row i_4 ((lcell ARat.cells) v)), .none, (iI (v.length : Int))], .dec true, .reg [.none, (iI (((i_4 + 1) : Nat) : Int))], .keep [1, 3, 4]]) (cj (o_len (lcell ARat.cells) l.pieces) (cj (dltN_t h1) (cj (o_at (lcell ARat.cells) (Eq.refl (((i_4 : Nat) : Int) : Int)) h2) (cj (o_len ARat.cells v) (cj (dltN_t h3) (cj (bs_addN h4) True.intro)))))) (by kernel_rfl) hL
theorem l11 (len_68 i_4 : Nat) (l : ALaw) (site_68 : List AArc) (v : List ARat) (k : Nat) (v1 : List ARat) (k1 : Nat) (v2 : List ARat) (val val1 : ARat) (cmp : Int) (endV : ARat) (k2 : Nat) (v3 : AArc) {r : PV} (h1 : i_4 < l.pieces.length) (h2 : l.pieces[i_4]? = some v) (h3 : v.length ≤ 1) (h4 : 0 < i_4) (h5 : InI64 ((i_4 : Int) - 1)) (h6 : ((i_4 : Int) - 1) = (k : Int)) (h7 : l.pieces[k]? = some v1) (h8 : v1.length ≤ 1) (h9 : ((i_4 : Int) - 1) = (k1 : Int)) (h10 : l.pieces[k1]? = some v2) (h11 : Contract prg 99 [(polyPV v2)] val.pv) (h12 : Contract prg 99 [(polyPV v)] val1.pv) (h13 : Contract prg 68 [val.pv, val1.pv] (vI cmp)) (h14 : cmp = 0) (h15 : InI64 ((len_68 : Int) - 1)) (h16 : Contract prg 97 [l.pv, (vI (i_4 : Int))] endV.pv) (h17 : ((len_68 : Int) - 1) = (k2 : Int)) (h18 : k2 < len_68) (h19 : site_68[k2]? = some v3) (h20 : (i_4 + 1) < 9223372036854775808) (hL : Loop1 len_68 (i_4 + 1) l (site_68.set k2 (⟨v3.fromV, endV⟩ : AArc)) r) : Loop1 len_68 i_4 l site_68 r :=
  L.go mixed tabOk (n := 156) (ns := [1, 1, 3, 1, 1, 1, 1, 1, 1, 1, 1, 3, 1, 1, 1, 1, 1, 1, 1, 1, 1, 1, 1, 3, 1, 1, 1, 1, 1, 1, 1, 3, 1, 1, 1, 1, 1, 1, 1, 1, 1, 1, 2, 2, 1]) (tr := [.auto, .reg [.none, .none, .none, (iI (l.pieces.length : Int))], .dec true, .reg [.none, .none, .none, (.row i_4 ((lcell ARat.cells) v)), .none, (iI (v.length : Int))], .dec false, dr 29 0 [.none, .none, .none, .none, .none, .none, (iI ((i_4 : Int) - 1)), (.row k ((lcell ARat.cells) v1)), .none, (iI (v1.length : Int)), .none, (.dec true), .none, .none, .none, .none, (iI ((i_4 : Int) - 1)), (.row k1 ((lcell ARat.cells) v2)), .none, (.pv val.pv), .none, .none, .none, (.row i_4 ((lcell ARat.cells) v)), .none, (.pv val1.pv), (.pv (vI cmp)), .none, (.dec true)], .dec true, .reg [.none, .none, .none, (iI ((len_68 : Int) - 1)), .none, .none, (.pv endV.pv), (.nat k2), .none, (.cells (.pure (((site_68.set k2 (⟨v3.fromV, endV⟩ : AArc)) : List AArc).map AArc.cells).flatten))], .reg [.none, (iI (((i_4 + 1) : Nat) : Int))], .keep [1, 3, 4]]) (cj (o_len (lcell ARat.cells) l.pieces) (cj (dltN_t h1) (cj (o_at (lcell ARat.cells) (Eq.refl (((i_4 : Nat) : Int) : Int)) h2) (cj (o_len ARat.cells v) (cj (dltN_f h3) (cj (dltN_t h4) (cj (dltN_t h4) (cj (dltN_t h4) (cj (dltN_t h4) (cj (bs_sub h5) (cj (dltN_t h4) (cj (o_at (lcell ARat.cells) h6 h7) (cj (dltN_t h4) (cj (dltN_t h4) (cj (o_len ARat.cells v1) (cj (dltN_t h4) (cj (dltN_t h4) (cj (dleN_t h8) (cj (dleN_t h8) (cj (dleN_t h8) (cj (dleN_t h8) (cj (bs_sub h5) (cj (dleN_t h8) (cj (o_at (lcell ARat.cells) h9 h10) (cj (dleN_t h8) (cj (dleN_t h8) (cj h11 (cj (dleN_t h8) (cj (dleN_t h8) (cj (dleN_t h8) (cj (dleN_t h8) (cj (o_at (lcell ARat.cells) (Eq.refl (((i_4 : Nat) : Int) : Int)) h2) (cj (dleN_t h8) (cj (dleN_t h8) (cj h12 (cj (dleN_t h8) (cj h13 (cj (dleN_t h8) (cj (dleN_t h8) (cj (deq_t h14) (cj (bs_sub h15) (cj h16 (cj (cj h17 h18) (cj (o_setp sz_AArc h19 3 [(vB endV.neg), (wordsPV endV.num), (wordsPV endV.den)] (⟨v3.fromV, endV⟩ : AArc) rfl rfl) (cj (bs_addN h20) True.intro))))))))))))))))))))))))))))))))))))))))))))) (by kernel_rfl) hL
theorem l12 (len_68 i_4 : Nat) (l : ALaw) (site_68 : List AArc) (v : List ARat) (k : Nat) (v1 : List ARat) (k1 : Nat) (v2 : List ARat) (val val1 : ARat) (cmp : Int) (v3 endV : ARat) {r : PV} (h1 : i_4 < l.pieces.length) (h2 : l.pieces[i_4]? = some v) (h3 : v.length ≤ 1) (h4 : 0 < i_4) (h5 : InI64 ((i_4 : Int) - 1)) (h6 : ((i_4 : Int) - 1) = (k : Int)) (h7 : l.pieces[k]? = some v1) (h8 : v1.length ≤ 1) (h9 : ((i_4 : Int) - 1) = (k1 : Int)) (h10 : l.pieces[k1]? = some v2) (h11 : Contract prg 99 [(polyPV v2)] val.pv) (h12 : Contract prg 99 [(polyPV v)] val1.pv) (h13 : Contract prg 68 [val.pv, val1.pv] (vI cmp)) (h14 : cmp ≠ 0) (h15 : l.breaks[i_4]? = some v3) (h16 : Contract prg 97 [l.pv, (vI (i_4 : Int))] endV.pv) (h17 : site_68.length = len_68) (h18 : ((site_68 ++ [(⟨v3, endV⟩ : AArc)]) : List AArc).length * 112 ≤ 140737488355328) (h19 : (i_4 + 1) < 9223372036854775808) (hL : Loop1 ((site_68 ++ [(⟨v3, endV⟩ : AArc)]).length) (i_4 + 1) l (site_68 ++ [(⟨v3, endV⟩ : AArc)]) r) : Loop1 len_68 i_4 l site_68 r :=
  L.go mixed tabOk (n := 150) (ns := [1, 1, 3, 1, 1, 1, 1, 1, 1, 1, 1, 3, 1, 1, 1, 1, 1, 1, 1, 1, 1, 1, 1, 3, 1, 1, 1, 1, 1, 1, 1, 3, 1, 1, 1, 1, 1, 1, 1, 1, 3, 1, 6, 1]) (tr := [.auto, .reg [.none, .none, .none, (iI (l.pieces.length : Int))], .dec true, .reg [.none, .none, .none, (.row i_4 ((lcell ARat.cells) v)), .none, (iI (v.length : Int))], .dec false, dr 29 0 [.none, .none, .none, .none, .none, .none, (iI ((i_4 : Int) - 1)), (.row k ((lcell ARat.cells) v1)), .none, (iI (v1.length : Int)), .none, (.dec true), .none, .none, .none, .none, (iI ((i_4 : Int) - 1)), (.row k1 ((lcell ARat.cells) v2)), .none, (.pv val.pv), .none, .none, .none, (.row i_4 ((lcell ARat.cells) v)), .none, (.pv val1.pv), (.pv (vI cmp)), .none, (.dec true)], .dec false, dr 11 2 [.none, .none, .none, .none, (.row i_4 (ARat.cells v3)), .none, .none, .none, (.pv endV.pv), .none, .none, (.app ((site_68 ++ [(⟨v3, endV⟩ : AArc)]) : List AArc).length (((site_68 ++ [(⟨v3, endV⟩ : AArc)]) : List AArc).map AArc.cells).flatten)], .reg [.none, (iI (((i_4 + 1) : Nat) : Int))], .keep [1, 3, 4], .drop [67], .ord [1, 68]]) (cj (o_len (lcell ARat.cells) l.pieces) (cj (dltN_t h1) (cj (o_at (lcell ARat.cells) (Eq.refl (((i_4 : Nat) : Int) : Int)) h2) (cj (o_len ARat.cells v) (cj (dltN_f h3) (cj (dltN_t h4) (cj (dltN_t h4) (cj (dltN_t h4) (cj (dltN_t h4) (cj (bs_sub h5) (cj (dltN_t h4) (cj (o_at (lcell ARat.cells) h6 h7) (cj (dltN_t h4) (cj (dltN_t h4) (cj (o_len ARat.cells v1) (cj (dltN_t h4) (cj (dltN_t h4) (cj (dleN_t h8) (cj (dleN_t h8) (cj (dleN_t h8) (cj (dleN_t h8) (cj (bs_sub h5) (cj (dleN_t h8) (cj (o_at (lcell ARat.cells) h9 h10) (cj (dleN_t h8) (cj (dleN_t h8) (cj h11 (cj (dleN_t h8) (cj (dleN_t h8) (cj (dleN_t h8) (cj (dleN_t h8) (cj (o_at (lcell ARat.cells) (Eq.refl (((i_4 : Nat) : Int) : Int)) h2) (cj (dleN_t h8) (cj (dleN_t h8) (cj h12 (cj (dleN_t h8) (cj h13 (cj (dleN_t h8) (cj (dleN_t h8) (cj (deq_f h14) (cj (o_at ARat.cells (Eq.refl (((i_4 : Nat) : Int) : Int)) h15) (cj h16 (cj (o_appR sz_AArc (site_68 : List AArc) ([(⟨v3, endV⟩ : AArc)] : List AArc) 112 h17 (Eq.refl ([(⟨v3, endV⟩ : AArc)] : List AArc).length) h18 rfl) (cj (bs_addN h19) True.intro)))))))))))))))))))))))))))))))))))))))))))) (by kernel_rfl) hL
theorem l13 (len_68 i_4 : Nat) (l : ALaw) (site_68 : List AArc) (v : List ARat) (k : Nat) (v1 : List ARat) (v2 endV : ARat) {r : PV} (h1 : i_4 < l.pieces.length) (h2 : l.pieces[i_4]? = some v) (h3 : v.length ≤ 1) (h4 : 0 < i_4) (h5 : InI64 ((i_4 : Int) - 1)) (h6 : ((i_4 : Int) - 1) = (k : Int)) (h7 : l.pieces[k]? = some v1) (h8 : 1 < v1.length) (h9 : l.breaks[i_4]? = some v2) (h10 : Contract prg 97 [l.pv, (vI (i_4 : Int))] endV.pv) (h11 : site_68.length = len_68) (h12 : ((site_68 ++ [(⟨v2, endV⟩ : AArc)]) : List AArc).length * 112 ≤ 140737488355328) (h13 : (i_4 + 1) < 9223372036854775808) (hL : Loop1 ((site_68 ++ [(⟨v2, endV⟩ : AArc)]).length) (i_4 + 1) l (site_68 ++ [(⟨v2, endV⟩ : AArc)]) r) : Loop1 len_68 i_4 l site_68 r :=
  L.go mixed tabOk (n := 150) (ns := [1, 1, 3, 1, 1, 1, 1, 1, 1, 1, 1, 3, 1, 1, 1, 1, 1, 1, 1, 1, 1, 1, 1, 1, 1, 1, 1, 1, 1, 1, 1, 1, 1, 3, 1, 6, 1]) (tr := [.auto, .reg [.none, .none, .none, (iI (l.pieces.length : Int))], .dec true, .reg [.none, .none, .none, (.row i_4 ((lcell ARat.cells) v)), .none, (iI (v.length : Int))], .dec false, dr 29 0 [.none, .none, .none, .none, .none, .none, (iI ((i_4 : Int) - 1)), (.row k ((lcell ARat.cells) v1)), .none, (iI (v1.length : Int)), .none, (.dec true), .none, .skip, .skip, .skip, .skip, .skip, .skip, .skip, .skip, .skip, .skip, .skip, .skip, .skip, .skip, .skip, (.dec false)], .auto, dr 11 2 [.none, .none, .none, .none, (.row i_4 (ARat.cells v2)), .none, .none, .none, (.pv endV.pv), .none, .none, (.app ((site_68 ++ [(⟨v2, endV⟩ : AArc)]) : List AArc).length (((site_68 ++ [(⟨v2, endV⟩ : AArc)]) : List AArc).map AArc.cells).flatten)], .reg [.none, (iI (((i_4 + 1) : Nat) : Int))], .keep [1, 3, 4], .drop [67], .ord [1, 68]]) (cj (o_len (lcell ARat.cells) l.pieces) (cj (dltN_t h1) (cj (o_at (lcell ARat.cells) (Eq.refl (((i_4 : Nat) : Int) : Int)) h2) (cj (o_len ARat.cells v) (cj (dltN_f h3) (cj (dltN_t h4) (cj (dltN_t h4) (cj (dltN_t h4) (cj (dltN_t h4) (cj (bs_sub h5) (cj (dltN_t h4) (cj (o_at (lcell ARat.cells) h6 h7) (cj (dltN_t h4) (cj (dltN_t h4) (cj (o_len ARat.cells v1) (cj (dltN_t h4) (cj (dltN_t h4) (cj (dleN_f h8) (cj (dleN_f h8) (cj (dleN_f h8) (cj (dleN_f h8) (cj (dleN_f h8) (cj (dleN_f h8) (cj (dleN_f h8) (cj (dleN_f h8) (cj (dleN_f h8) (cj (dleN_f h8) (cj (dleN_f h8) (cj (dleN_f h8) (cj (dleN_f h8) (cj (dleN_f h8) (cj (dleN_f h8) (cj (dleN_f h8) (cj (o_at ARat.cells (Eq.refl (((i_4 : Nat) : Int) : Int)) h9) (cj h10 (cj (o_appR sz_AArc (site_68 : List AArc) ([(⟨v2, endV⟩ : AArc)] : List AArc) 112 h11 (Eq.refl ([(⟨v2, endV⟩ : AArc)] : List AArc).length) h12 rfl) (cj (bs_addN h13) True.intro))))))))))))))))))))))))))))))))))))) (by kernel_rfl) hL
theorem l14 (len_68 i_4 : Nat) (l : ALaw) (site_68 : List AArc) (v : List ARat) (v1 endV : ARat) {r : PV} (h1 : i_4 < l.pieces.length) (h2 : l.pieces[i_4]? = some v) (h3 : v.length ≤ 1) (h4 : i_4 ≤ 0) (h5 : l.breaks[i_4]? = some v1) (h6 : Contract prg 97 [l.pv, (vI (i_4 : Int))] endV.pv) (h7 : site_68.length = len_68) (h8 : ((site_68 ++ [(⟨v1, endV⟩ : AArc)]) : List AArc).length * 112 ≤ 140737488355328) (h9 : (i_4 + 1) < 9223372036854775808) (hL : Loop1 ((site_68 ++ [(⟨v1, endV⟩ : AArc)]).length) (i_4 + 1) l (site_68 ++ [(⟨v1, endV⟩ : AArc)]) r) : Loop1 len_68 i_4 l site_68 r :=
  L.go mixed tabOk (n := 150) (ns := [1, 1, 3, 1, 1, 1, 1, 1, 1, 1, 1, 1, 1, 1, 1, 1, 1, 1, 1, 1, 1, 1, 1, 1, 1, 1, 1, 1, 1, 3, 1, 6, 1]) (tr := [.auto, .reg [.none, .none, .none, (iI (l.pieces.length : Int))], .dec true, .reg [.none, .none, .none, (.row i_4 ((lcell ARat.cells) v)), .none, (iI (v.length : Int))], .dec false, dr 29 0 [.none, .none, .none, .skip, .skip, .skip, .skip, .skip, .skip, .skip, .skip, (.dec false), .none, .skip, .skip, .skip, .skip, .skip, .skip, .skip, .skip, .skip, .skip, .skip, .skip, .skip, .skip, .skip], .auto, dr 11 2 [.none, .none, .none, .none, (.row i_4 (ARat.cells v1)), .none, .none, .none, (.pv endV.pv), .none, .none, (.app ((site_68 ++ [(⟨v1, endV⟩ : AArc)]) : List AArc).length (((site_68 ++ [(⟨v1, endV⟩ : AArc)]) : List AArc).map AArc.cells).flatten)], .reg [.none, (iI (((i_4 + 1) : Nat) : Int))], .keep [1, 3, 4], .drop [67], .ord [1, 68]]) (cj (o_len (lcell ARat.cells) l.pieces) (cj (dltN_t h1) (cj (o_at (lcell ARat.cells) (Eq.refl (((i_4 : Nat) : Int) : Int)) h2) (cj (o_len ARat.cells v) (cj (dltN_f h3) (cj (dltN_f h4) (cj (dltN_f h4) (cj (dltN_f h4) (cj (dltN_f h4) (cj (dltN_f h4) (cj (dltN_f h4) (cj (dltN_f h4) (cj (dltN_f h4) (cj (dltN_f h4) (cj (Eq.refl false) (cj (Eq.refl false) (cj (Eq.refl false) (cj (Eq.refl false) (cj (Eq.refl false) (cj (Eq.refl false) (cj (Eq.refl false) (cj (Eq.refl false) (cj (Eq.refl false) (cj (Eq.refl false) (cj (Eq.refl false) (cj (Eq.refl false) (cj (Eq.refl false) (cj (Eq.refl false) (cj (Eq.refl false) (cj (o_at ARat.cells (Eq.refl (((i_4 : Nat) : Int) : Int)) h5) (cj h6 (cj (o_appR sz_AArc (site_68 : List AArc) ([(⟨v1, endV⟩ : AArc)] : List AArc) 112 h7 (Eq.refl ([(⟨v1, endV⟩ : AArc)] : List AArc).length) h8 rfl) (cj (bs_addN h9) True.intro))))))))))))))))))))))))))))))))) (by kernel_rfl) hL
theorem l15 (len_68 i_4 : Nat) (l : ALaw) (site_68 : List AArc) (h1 : l.pieces.length ≤ i_4) (h2 : len_68 = site_68.length) : Loop1 len_68 i_4 l site_68 (lpv AArc.cells site_68) :=
  L.done mixed tabOk (n := 120) (ns := [1, 1, 3]) (tr := [.auto, .reg [.none, .none, .none, (iI (l.pieces.length : Int))], .dec false, .reg [], .frzT 2 ((site_68 : List AArc).map AArc.cells)]) (cj (o_len (lcell ARat.cells) l.pieces) (cj (dltN_f h1) (cj (o_frz sz_AArc (site_68 : List AArc) h2) True.intro))) (by kernel_rfl)
end linkworkref52_Dwells
namespace linkworkref52_Smooth
@[reducible] noncomputable def fn : Func := Tryz.f44
noncomputable def atK1 : List Itm := focus [0, 2, 0, 0, 0] [.code (bodyOf fn)]
def inv1 (k_1 : Int) (site_2 : ALaw) : St := ⟨[(1, (eI k_1)), (2, (.ptr 2 0))], [(2, (.lit [(.pv (polyPV site_2.breaks)), (.pv (lpv (lcell ARat.cells) site_2.pieces))]))]⟩
@[reducible] noncomputable def Loop1 (k_1 : Int) (site_2 : ALaw) (r : PV) : Prop := L prg fn atK1 (inv1 k_1 site_2) r
noncomputable def atK2 : List Itm := focus [0, 2, 0, 0, 0, 0, 0, 0, 2, 0, 2, 0, 0, 0, 0, 2, 0, 0] [.code (bodyOf fn)]
def inv2 (k_1 : Int) (i_5 : Nat) (site_2 : ALaw) : St := ⟨[(1, (eI k_1)), (2, (.ptr 2 0)), (5, (eI (i_5 : Int)))], [(2, (.lit [(.pv (polyPV site_2.breaks)), (.pv (lpv (lcell ARat.cells) site_2.pieces))]))]⟩
@[reducible] noncomputable def Loop2 (k_1 : Int) (i_5 : Nat) (site_2 : ALaw) (r : PV) : Prop := L prg fn atK2 (inv2 k_1 i_5 site_2) r
theorem e0 (l : ALaw) (k : Int) {r : PV}  (hL : Loop1 k l r) : Contract prg 44 [l.pv, (vI k)] r :=
  Contract.ofL Tryz.func44 (by kernel_rfl) (L.go mixed tabOk (n := 75) (ns := []) (tr := [.reg [], .keep [1, 2]]) True.intro (by kernel_rfl) hL)
theorem l10 (k_1 : Int) (site_2 : ALaw) {r : PV} (h1 : 0 ≤ k_1) (hL : Loop2 k_1 0 site_2 r) : Loop1 k_1 site_2 r :=
  L.go mixed tabOk (n := 114) (ns := [1]) (tr := [.auto, .reg [], .dec true, .reg [], .keep [1, 2, 5]]) (cj (dle_t h1) True.intro) (by kernel_rfl) hL
theorem l11 (k_1 : Int) (site_2 : ALaw) (h1 : k_1 < 0) : Loop1 k_1 site_2 (vB true) :=
  L.done mixed tabOk (n := 108) (ns := [1]) (tr := [.auto, .reg [], .dec false, .reg []]) (cj (dle_f h1) True.intro) (by kernel_rfl)
theorem l20 (k_1 : Int) (i_5 : Nat) (site_2 : ALaw) (v v1 : List ARat) (endV v2 sub atV atV1 : ARat) (cmp : Int) (h1 : i_5 < site_2.breaks.length) (h2 : (i_5 + 1) < 9223372036854775808) (h3 : site_2.pieces.length ≠ 0) (h4 : site_2.pieces[((i_5 + 1) % site_2.pieces.length)]? = some v) (h5 : site_2.pieces[i_5]? = some v1) (h6 : Contract prg 97 [site_2.pv, (vI (i_5 : Int))] endV.pv) (h7 : site_2.breaks[i_5]? = some v2) (h8 : Contract prg 56 [endV.pv, v2.pv] sub.pv) (h9 : Contract prg 77 [(polyPV v1), sub.pv] atV.pv) (h10 : Contract prg 77 [(polyPV v), (⟨false, [], []⟩ : ARat).pv] atV1.pv) (h11 : Contract prg 68 [atV.pv, atV1.pv] (vI cmp)) (h12 : cmp ≠ 0) : Loop2 k_1 i_5 site_2 (vB false) :=
  L.done mixed tabOk (n := 159) (ns := [1, 1, 1, 1, 1, 3, 3, 1, 3, 1, 1, 1, 1, 1]) (tr := [.auto, .reg [.none, .none, .none, (iI (site_2.breaks.length : Int))], .dec true, dr 10 1 [.none, .none, .none, (iI (((i_5 + 1) : Nat) : Int)), .none, .none, (iI (site_2.pieces.length : Int)), (iI ((((i_5 + 1) % site_2.pieces.length) : Nat) : Int)), (.row ((i_5 + 1) % site_2.pieces.length) ((lcell ARat.cells) v))], dr 20 0 [.none, .none, .none, (.row i_5 ((lcell ARat.cells) v1)), .none, .none, .none, (.pv endV.pv), .none, .none, .none, (.row i_5 (ARat.cells v2)), .none, (.pv sub.pv), (.pv atV.pv), .none, .none, (.pv atV1.pv), (.pv (vI cmp))], .dec true, .reg []]) (cj (o_len ARat.cells site_2.breaks) (cj (dltN_t h1) (cj (bs_addN h2) (cj (o_len (lcell ARat.cells) site_2.pieces) (cj (bs_remN (x := (i_5 + 1)) h3) (cj (o_at (lcell ARat.cells) (Eq.refl (((((i_5 + 1) % site_2.pieces.length) : Nat) : Int) : Int)) h4) (cj (o_at (lcell ARat.cells) (Eq.refl (((i_5 : Nat) : Int) : Int)) h5) (cj h6 (cj (o_at ARat.cells (Eq.refl (((i_5 : Nat) : Int) : Int)) h7) (cj h8 (cj h9 (cj h10 (cj h11 (cj (dne_t h12) True.intro)))))))))))))) (by kernel_rfl)
theorem l21 (k_1 : Int) (i_5 : Nat) (site_2 : ALaw) (v v1 : List ARat) (endV v2 sub atV atV1 : ARat) (cmp : Int) {r : PV} (h1 : i_5 < site_2.breaks.length) (h2 : (i_5 + 1) < 9223372036854775808) (h3 : site_2.pieces.length ≠ 0) (h4 : site_2.pieces[((i_5 + 1) % site_2.pieces.length)]? = some v) (h5 : site_2.pieces[i_5]? = some v1) (h6 : Contract prg 97 [site_2.pv, (vI (i_5 : Int))] endV.pv) (h7 : site_2.breaks[i_5]? = some v2) (h8 : Contract prg 56 [endV.pv, v2.pv] sub.pv) (h9 : Contract prg 77 [(polyPV v1), sub.pv] atV.pv) (h10 : Contract prg 77 [(polyPV v), (⟨false, [], []⟩ : ARat).pv] atV1.pv) (h11 : Contract prg 68 [atV.pv, atV1.pv] (vI cmp)) (h12 : cmp = 0) (hL : Loop2 k_1 (i_5 + 1) site_2 r) : Loop2 k_1 i_5 site_2 r :=
  L.go mixed tabOk (n := 162) (ns := [1, 1, 1, 1, 1, 3, 3, 1, 3, 1, 1, 1, 1, 1, 1]) (tr := [.auto, .reg [.none, .none, .none, (iI (site_2.breaks.length : Int))], .dec true, dr 10 1 [.none, .none, .none, (iI (((i_5 + 1) : Nat) : Int)), .none, .none, (iI (site_2.pieces.length : Int)), (iI ((((i_5 + 1) % site_2.pieces.length) : Nat) : Int)), (.row ((i_5 + 1) % site_2.pieces.length) ((lcell ARat.cells) v))], dr 20 0 [.none, .none, .none, (.row i_5 ((lcell ARat.cells) v1)), .none, .none, .none, (.pv endV.pv), .none, .none, .none, (.row i_5 (ARat.cells v2)), .none, (.pv sub.pv), (.pv atV.pv), .none, .none, (.pv atV1.pv), (.pv (vI cmp))], .dec false, .reg [.none, (iI (((i_5 + 1) : Nat) : Int))], .keep [1, 2, 5]]) (cj (o_len ARat.cells site_2.breaks) (cj (dltN_t h1) (cj (bs_addN h2) (cj (o_len (lcell ARat.cells) site_2.pieces) (cj (bs_remN (x := (i_5 + 1)) h3) (cj (o_at (lcell ARat.cells) (Eq.refl (((((i_5 + 1) % site_2.pieces.length) : Nat) : Int) : Int)) h4) (cj (o_at (lcell ARat.cells) (Eq.refl (((i_5 : Nat) : Int) : Int)) h5) (cj h6 (cj (o_at ARat.cells (Eq.refl (((i_5 : Nat) : Int) : Int)) h7) (cj h8 (cj h9 (cj h10 (cj h11 (cj (dne_f h12) (cj (bs_addN h2) True.intro))))))))))))))) (by kernel_rfl) hL
theorem l22 (k_1 : Int) (i_5 : Nat) (site_2 der : ALaw) {r : PV} (h1 : site_2.breaks.length ≤ i_5) (h2 : Contract prg 27 [site_2.pv] der.pv) (h3 : InI64 (k_1 - 1)) (hL : Loop1 (k_1 - 1) der r) : Loop2 k_1 i_5 site_2 r :=
  L.go mixed tabOk (n := 150) (ns := [1, 1, 1, 1]) (tr := [.auto, .reg [.none, .none, .none, (iI (site_2.breaks.length : Int))], .dec false, .reg [.none, (.pv der.pv)], .reg [.none, (iI (k_1 - 1))], .keep [1, 2]]) (cj (o_len ARat.cells site_2.breaks) (cj (dltN_f h1) (cj h2 (cj (bs_sub h3) True.intro)))) (by kernel_rfl) hL
end linkworkref52_Smooth
namespace law_one
theorem e0 (of : ARat) (h1 : Contract prg 33 [(vI 1)] of.pv) : Contract prg 53 [] of.pv :=
  Contract.ofL Tryz.func53 (by kernel_rfl) (L.done mixed tabOk (n := 72) (ns := [1]) (tr := [.reg [], .reg [(.pv of.pv)]]) (cj h1 True.intro) (by kernel_rfl))
end law_one
namespace law_wrapped
theorem e0 (x : ARat) (flo who : AWhole) (fro sub : ARat) (h1 : Contract prg 117 [x.pv] flo.pv) (h2 : Contract prg 118 [] who.pv) (h3 : Contract prg 111 [flo.pv, who.pv] (.tup [fro.pv, .nilI])) (h4 : Contract prg 51 [x.pv, fro.pv] sub.pv) : Contract prg 66 [x.pv] (.tup [sub.pv, .nilI]) :=
  Contract.ofL Tryz.func66 (by kernel_rfl) (L.done mixed tabOk (n := 93) (ns := [1, 1, 1, 1]) (tr := [.reg [], .reg [.none, (.pv flo.pv), (.pv who.pv), (.pv (.tup [fro.pv, .nilI]))], .reg [], .auto, .reg [.none, .none, (.pv sub.pv)]]) (cj h1 (cj h2 (cj h3 (cj h4 True.intro)))) (by kernel_rfl))
end law_wrapped
namespace law_piece
@[reducible] noncomputable def fn : Func := Tryz.f67
noncomputable def atK1 : List Itm := focus [0, 2, 0, 2, 0, 0, 0] [.code (bodyOf fn)]
def inv1 (i_5 : Int) (l : ALaw) (x : ARat) : St := ⟨[(2, (.ptr 2 0)), (3, (.ptr 3 0)), (5, (eI i_5))], [(2, (.lit [(.pv (polyPV l.breaks)), (.pv (lpv (lcell ARat.cells) l.pieces))])), (3, (.lit [(eB x.neg), (.pv (wordsPV x.num)), (.pv (wordsPV x.den))]))]⟩
@[reducible] noncomputable def Loop1 (i_5 : Int) (l : ALaw) (x : ARat) (r : PV) : Prop := L prg fn atK1 (inv1 i_5 l x) r
theorem e0 (l : ALaw) (x : ARat) {r : PV} (h1 : InI64 ((l.breaks.length : Int) - 1)) (hL : Loop1 ((l.breaks.length : Int) - 1) l x r) : Contract prg 67 [l.pv, x.pv] r :=
  Contract.ofL Tryz.func67 (by kernel_rfl) (L.go mixed tabOk (n := 81) (ns := [1, 1]) (tr := [.reg [], .reg [.none, .none, (iI (l.breaks.length : Int)), (iI ((l.breaks.length : Int) - 1))], .keep [2, 3, 5], .ord [2, 3]]) (cj (o_len ARat.cells l.breaks) (cj (bs_sub h1) True.intro)) (by kernel_rfl) hL)
theorem l10 (i_5 : Int) (l : ALaw) (x : ARat) (k : Nat) (v : ARat) (cmp : Int) {r : PV} (h1 : i_5 = (k : Int)) (h2 : l.breaks[k]? = some v) (h3 : Contract prg 38 [v.pv, x.pv] (vI cmp)) (h4 : 0 < cmp) (h5 : InI64 (i_5 - 1)) (hL : Loop1 (i_5 - 1) l x r) : Loop1 i_5 l x r :=
  L.go mixed tabOk (n := 108) (ns := [3, 1, 1, 1]) (tr := [.auto, dr 8 0 [.none, .none, .none, (.row k (ARat.cells v)), .none, .none, (.pv (vI cmp))], .dec true, .reg [.none, (iI (i_5 - 1))], .keep [2, 3, 5]]) (cj (o_at ARat.cells h1 h2) (cj h3 (cj (dlt_t h4) (cj (bs_sub h5) True.intro)))) (by kernel_rfl) hL
theorem l11 (i_5 : Int) (l : ALaw) (x : ARat) (k : Nat) (v : ARat) (cmp : Int) (h1 : i_5 = (k : Int)) (h2 : l.breaks[k]? = some v) (h3 : Contract prg 38 [v.pv, x.pv] (vI cmp)) (h4 : cmp ≤ 0) : Loop1 i_5 l x (vI i_5) :=
  L.done mixed tabOk (n := 114) (ns := [3, 1, 1]) (tr := [.auto, dr 8 0 [.none, .none, .none, (.row k (ARat.cells v)), .none, .none, (.pv (vI cmp))], .dec false, .reg []]) (cj (o_at ARat.cells h1 h2) (cj h3 (cj (dlt_f h4) True.intro))) (by kernel_rfl)
end law_piece
namespace linkworkref52_derived
theorem e0 (p der : List ARat) (der1 : Int) (h1 : Contract prg 119 [(polyPV p)] (.tup [(polyPV der), (vI der1)])) : Contract prg 71 [(polyPV p)] (polyPV der) :=
  Contract.ofL Tryz.func71 (by kernel_rfl) (L.done mixed tabOk (n := 78) (ns := [1]) (tr := [.reg [], .reg [.none, (.pv (.tup [(polyPV der), (vI der1)]))], .reg []]) (cj h1 True.intro) (by kernel_rfl))
end linkworkref52_derived
namespace law_length
theorem e0 (l : ALaw) (i : Int) (endV : ARat) (k : Nat) (v sub : ARat) (h1 : Contract prg 88 [l.pv, (vI i)] endV.pv) (h2 : i = (k : Int)) (h3 : l.breaks[k]? = some v) (h4 : Contract prg 51 [endV.pv, v.pv] sub.pv) : Contract prg 85 [l.pv, (vI i)] sub.pv :=
  Contract.ofL Tryz.func85 (by kernel_rfl) (L.done mixed tabOk (n := 72) (ns := [1, 3, 1]) (tr := [.reg [], dr 9 1 [.none, .none, (.pv endV.pv), .none, .none, .none, (.row k (ARat.cells v)), .none, (.pv sub.pv)]]) (cj h1 (cj (o_at ARat.cells h2 h3) (cj h4 True.intro))) (by kernel_rfl))
end law_length
namespace law_same
theorem e0 (p q : List ARat) (h1 : p.length = q.length) (h2 : p.length = 0) : Contract prg 87 [(polyPV p), (polyPV q)] (vB true) :=
  Contract.ofL Tryz.func87 (by kernel_rfl) (L.done mixed tabOk (n := 72) (ns := [1, 1, 1, 1, 1, 1, 1, 1, 1, 1, 1, 1, 1, 1, 1, 1, 1, 1]) (tr := [.reg [], dr 20 1 [.none, (iI (p.length : Int)), .none, (iI (q.length : Int)), .none, .none, .none, (iI (p.length : Int)), .none, .none, .skip, .skip, .skip, .skip, .skip, .skip, .skip, .skip, (.dec true), (.dec true)]]) (cj (o_len ARat.cells p) (cj (o_len ARat.cells q) (cj (deqN_t h1) (cj (deqN_t h1) (cj (o_len ARat.cells p) (cj (deqN_t h1) (cj (deqN_t h1) (cj (deqN_t h2) (cj (deqN_t h2) (cj (deqN_t h2) (cj (deqN_t h2) (cj (deqN_t h2) (cj (deqN_t h2) (cj (deqN_t h2) (cj (deqN_t h2) (cj (deqN_t h1) (cj (deqN_t h2) (cj (deqN_t h1) True.intro)))))))))))))))))) (by kernel_rfl))
theorem e1 (p q : List ARat) (v v1 : ARat) (cmp : Int) (h1 : p.length = q.length) (h2 : p.length ≠ 0) (h3 : p[0]? = some v) (h4 : q[0]? = some v1) (h5 : Contract prg 38 [v.pv, v1.pv] (vI cmp)) : Contract prg 87 [(polyPV p), (polyPV q)] (vB (cmp == 0)) :=
  Contract.ofL Tryz.func87 (by kernel_rfl) (L.done mixed tabOk (n := 72) (ns := [1, 1, 1, 1, 1, 1, 1, 1, 1, 3, 1, 1, 1, 3, 1, 1, 1, 1, 1, 1, 1]) (tr := [.reg [], dr 20 1 [.none, (iI (p.length : Int)), .none, (iI (q.length : Int)), .none, .none, .none, (iI (p.length : Int)), .none, .none, .none, (.row 0 (ARat.cells v)), .none, .none, (.row 0 (ARat.cells v1)), .none, (.pv (vI cmp)), .none, (.dec false), (.dec true)]]) (cj (o_len ARat.cells p) (cj (o_len ARat.cells q) (cj (deqN_t h1) (cj (deqN_t h1) (cj (o_len ARat.cells p) (cj (deqN_t h1) (cj (deqN_t h1) (cj (deqN_f h2) (cj (deqN_f h2) (cj (o_at ARat.cells (Eq.refl (0 : Int)) h3) (cj (deqN_f h2) (cj (deqN_f h2) (cj (deqN_f h2) (cj (o_at ARat.cells (Eq.refl (0 : Int)) h4) (cj (deqN_f h2) (cj (deqN_f h2) (cj h5 (cj (deqN_f h2) (cj (deqN_t h1) (cj (deqN_f h2) (cj (deqN_t h1) True.intro))))))))))))))))))))) (by kernel_rfl))
theorem e2 (p q : List ARat) (h1 : p.length ≠ q.length) : Contract prg 87 [(polyPV p), (polyPV q)] (vB false) :=
  Contract.ofL Tryz.func87 (by kernel_rfl) (L.done mixed tabOk (n := 72) (ns := [1, 1, 1, 1, 1, 1, 1, 1]) (tr := [.reg [], dr 20 1 [.none, (iI (p.length : Int)), .none, (iI (q.length : Int)), .none, .none, .skip, .skip, .skip, .skip, .skip, .skip, .skip, .skip, .skip, .skip, .skip, .skip, .skip, (.dec false)]]) (cj (o_len ARat.cells p) (cj (o_len ARat.cells q) (cj (deqN_f h1) (cj (deqN_f h1) (cj (deqN_f h1) (cj (deqN_f h1) (cj (deqN_f h1) (cj (deqN_f h1) True.intro)))))))) (by kernel_rfl))
end law_same
namespace law_end
theorem e0 (l : ALaw) (i : Int) (k : Nat) (v : ARat) (h1 : InI64 (i + 1)) (h2 : (i + 1) < (l.breaks.length : Int)) (h3 : (i + 1) = (k : Int)) (h4 : l.breaks[k]? = some v) : Contract prg 88 [l.pv, (vI i)] v.pv :=
  Contract.ofL Tryz.func88 (by kernel_rfl) (L.done mixed tabOk (n := 84) (ns := [1, 1, 1, 1, 3]) (tr := [.reg [], .reg [.none, (iI (i + 1)), .none, .none, (iI (l.breaks.length : Int))], .dec true, .reg [.none, .none, .none, (iI (i + 1)), (.row k (ARat.cells v))]]) (cj (bs_add h1) (cj (o_len ARat.cells l.breaks) (cj (dlt_t h2) (cj (bs_add h1) (cj (o_at ARat.cells h3 h4) True.intro))))) (by kernel_rfl))
theorem e1 (l : ALaw) (i : Int) (one : ARat) (h1 : InI64 (i + 1)) (h2 : (l.breaks.length : Int) ≤ (i + 1)) (h3 : Contract prg 53 [] one.pv) : Contract prg 88 [l.pv, (vI i)] one.pv :=
  Contract.ofL Tryz.func88 (by kernel_rfl) (L.done mixed tabOk (n := 87) (ns := [1, 1, 1, 1]) (tr := [.reg [], .reg [.none, (iI (i + 1)), .none, .none, (iI (l.breaks.length : Int))], .dec false, .reg [(.pv one.pv)]]) (cj (bs_add h1) (cj (o_len ARat.cells l.breaks) (cj (dlt_f h2) (cj h3 True.intro)))) (by kernel_rfl))
end law_end
namespace law_joins
@[reducible] noncomputable def fn : Func := Tryz.f95
noncomputable def atK1 : List Itm := focus [0, 2, 0, 0, 2, 0, 0] [.code (bodyOf fn)]
def inv1 (l : ALaw) (t_12 : Nat) : St := ⟨[(1, (.ptr 1 0)), (10, (.pv (lpv (lcell ARat.cells) l.pieces))), (11, (eI (l.pieces.length : Int))), (12, (eI (t_12 : Int)))], [(1, (.lit [(.pv (polyPV l.breaks)), (.pv (lpv (lcell ARat.cells) l.pieces))]))]⟩
@[reducible] noncomputable def Loop1 (l : ALaw) (t_12 : Nat) (r : PV) : Prop := L prg fn atK1 (inv1 l t_12) r
theorem e0 (l : ALaw) {r : PV}  (hL : Loop1 l 0 r) : Contract prg 95 [l.pv] r :=
  Contract.ofL Tryz.func95 (by kernel_rfl) (L.go mixed tabOk (n := 81) (ns := [1]) (tr := [.reg [], .reg [.none, .none, (iI (l.pieces.length : Int))], .keep [1, 10, 11, 12]]) (cj (o_len (lcell ARat.cells) l.pieces) True.intro) (by kernel_rfl) hL)
theorem l10 (l : ALaw) (t_12 : Nat) (v : List ARat) (len eva : ARat) (v1 : List ARat) (eva2 : ARat) (cmp : Int) (h1 : t_12 < l.pieces.length) (h2 : l.pieces[t_12]? = some v) (h3 : Contract prg 85 [l.pv, (vI (t_12 : Int))] len.pv) (h4 : Contract prg 16 [(polyPV v), len.pv] (.tup [eva.pv, .nilI])) (h5 : (t_12 + 1) < 9223372036854775808) (h6 : l.pieces.length ≠ 0) (h7 : l.pieces[((t_12 + 1) % l.pieces.length)]? = some v1) (h8 : Contract prg 16 [(polyPV v1), (⟨false, [], []⟩ : ARat).pv] (.tup [eva2.pv, .nilI])) (h9 : Contract prg 38 [eva.pv, eva2.pv] (vI cmp)) (h10 : cmp ≠ 0) : Loop1 l t_12 (.tup [(vB false), .nilI]) :=
  L.done mixed tabOk (n := 168) (ns := [1, 3, 1, 1, 1, 1, 1, 3, 1, 1, 1]) (tr := [.auto, .reg [], .dec true, .reg [.none, (.row t_12 ((lcell ARat.cells) v))], .reg [.none, .none, .none, (.pv len.pv), (.pv (.tup [eva.pv, .nilI]))], .reg [], .auto, dr 17 1 [.none, .none, .none, (iI (((t_12 + 1) : Nat) : Int)), .none, .none, (iI (l.pieces.length : Int)), (iI ((((t_12 + 1) % l.pieces.length) : Nat) : Int)), (.row ((t_12 + 1) % l.pieces.length) ((lcell ARat.cells) v1)), .none, .none, (.pv (.tup [eva2.pv, .nilI]))], .reg [], .auto, .reg [.none, .none, (.pv (vI cmp))], .dec true, .reg []]) (cj (dltN_t h1) (cj (o_at (lcell ARat.cells) (Eq.refl (((t_12 : Nat) : Int) : Int)) h2) (cj h3 (cj h4 (cj (bs_addN h5) (cj (o_len (lcell ARat.cells) l.pieces) (cj (bs_remN (x := (t_12 + 1)) h6) (cj (o_at (lcell ARat.cells) (Eq.refl (((((t_12 + 1) % l.pieces.length) : Nat) : Int) : Int)) h7) (cj h8 (cj h9 (cj (dne_t h10) True.intro))))))))))) (by kernel_rfl)
theorem l11 (l : ALaw) (t_12 : Nat) (v : List ARat) (len eva : ARat) (v1 : List ARat) (eva2 : ARat) (cmp : Int) {r : PV} (h1 : t_12 < l.pieces.length) (h2 : l.pieces[t_12]? = some v) (h3 : Contract prg 85 [l.pv, (vI (t_12 : Int))] len.pv) (h4 : Contract prg 16 [(polyPV v), len.pv] (.tup [eva.pv, .nilI])) (h5 : (t_12 + 1) < 9223372036854775808) (h6 : l.pieces.length ≠ 0) (h7 : l.pieces[((t_12 + 1) % l.pieces.length)]? = some v1) (h8 : Contract prg 16 [(polyPV v1), (⟨false, [], []⟩ : ARat).pv] (.tup [eva2.pv, .nilI])) (h9 : Contract prg 38 [eva.pv, eva2.pv] (vI cmp)) (h10 : cmp = 0) (hL : Loop1 l (t_12 + 1) r) : Loop1 l t_12 r :=
  L.go mixed tabOk (n := 171) (ns := [1, 3, 1, 1, 1, 1, 1, 3, 1, 1, 1, 1]) (tr := [.auto, .reg [], .dec true, .reg [.none, (.row t_12 ((lcell ARat.cells) v))], .reg [.none, .none, .none, (.pv len.pv), (.pv (.tup [eva.pv, .nilI]))], .reg [], .auto, dr 17 1 [.none, .none, .none, (iI (((t_12 + 1) : Nat) : Int)), .none, .none, (iI (l.pieces.length : Int)), (iI ((((t_12 + 1) % l.pieces.length) : Nat) : Int)), (.row ((t_12 + 1) % l.pieces.length) ((lcell ARat.cells) v1)), .none, .none, (.pv (.tup [eva2.pv, .nilI]))], .reg [], .auto, .reg [.none, .none, (.pv (vI cmp))], .dec false, .reg [(iI (((t_12 + 1) : Nat) : Int))], .keep [1, 10, 11, 12], .drop [8, 6]]) (cj (dltN_t h1) (cj (o_at (lcell ARat.cells) (Eq.refl (((t_12 : Nat) : Int) : Int)) h2) (cj h3 (cj h4 (cj (bs_addN h5) (cj (o_len (lcell ARat.cells) l.pieces) (cj (bs_remN (x := (t_12 + 1)) h6) (cj (o_at (lcell ARat.cells) (Eq.refl (((((t_12 + 1) % l.pieces.length) : Nat) : Int) : Int)) h7) (cj h8 (cj h9 (cj (dne_f h10) (cj (bs_addN h5) True.intro)))))))))))) (by kernel_rfl) hL
theorem l14 (l : ALaw) (t_12 : Nat) (h1 : l.pieces.length ≤ t_12) : Loop1 l t_12 (.tup [(vB true), .nilI]) :=
  L.done mixed tabOk (n := 114) (ns := [1]) (tr := [.auto, .reg [], .dec false, .reg []]) (cj (dltN_f h1) True.intro) (by kernel_rfl)
end law_joins
namespace linkworkref52_End
theorem e0 (l : ALaw) (i : Int) (k : Nat) (v : ARat) (h1 : InI64 (i + 1)) (h2 : (i + 1) < (l.breaks.length : Int)) (h3 : (i + 1) = (k : Int)) (h4 : l.breaks[k]? = some v) : Contract prg 97 [l.pv, (vI i)] v.pv :=
  Contract.ofL Tryz.func97 (by kernel_rfl) (L.done mixed tabOk (n := 84) (ns := [1, 1, 1, 1, 3]) (tr := [.reg [], .reg [.none, (iI (i + 1)), .none, .none, (iI (l.breaks.length : Int))], .dec true, .reg [.none, .none, .none, (iI (i + 1)), (.row k (ARat.cells v))]]) (cj (bs_add h1) (cj (o_len ARat.cells l.breaks) (cj (dlt_t h2) (cj (bs_add h1) (cj (o_at ARat.cells h3 h4) True.intro))))) (by kernel_rfl))
theorem e1 (l : ALaw) (i : Int) (of : ARat) (h1 : InI64 (i + 1)) (h2 : (l.breaks.length : Int) ≤ (i + 1)) (h3 : Contract prg 58 [(vI 1)] of.pv) : Contract prg 97 [l.pv, (vI i)] of.pv :=
  Contract.ofL Tryz.func97 (by kernel_rfl) (L.done mixed tabOk (n := 87) (ns := [1, 1, 1, 1]) (tr := [.reg [], .reg [.none, (iI (i + 1)), .none, .none, (iI (l.breaks.length : Int))], .dec false, .reg [(.pv of.pv)]]) (cj (bs_add h1) (cj (o_len ARat.cells l.breaks) (cj (dlt_f h2) (cj h3 True.intro)))) (by kernel_rfl))
end linkworkref52_End
namespace linkworkref52_value
theorem e0 (p : List ARat) (atV : ARat) (h1 : Contract prg 77 [(polyPV p), (⟨false, [], []⟩ : ARat).pv] atV.pv) : Contract prg 99 [(polyPV p)] atV.pv :=
  Contract.ofL Tryz.func99 (by kernel_rfl) (L.done mixed tabOk (n := 72) (ns := [1]) (tr := [.reg [], .reg [.none, .none, (.pv atV.pv)]]) (cj h1 True.intro) (by kernel_rfl))
end linkworkref52_value
namespace law_whole
theorem e0   : Contract prg 118 [] ((⟨false, [(1 : UInt32)]⟩ : AWhole).pv) :=
  Contract.ofL Tryz.func118 (by kernel_rfl) (L.done mixed tabOk (n := 72) (ns := [3]) (tr := [.reg [], .reg [(.slc 0 0 (([(1 : UInt32)] : List UInt32).map wordPV))]]) (cj (o_bs sz_word ([(1 : UInt32)] : List UInt32)) True.intro) (by kernel_rfl))
end law_whole
end Go.Proofs.YtcgbmnkgmepikaaGreat.Sym.Path
namespace Go.Proofs.YtcgbmnkgmepikaaGreat.Sym
open Go Path CInt
set_option linter.unusedVariables false
namespace CLw
theorem one : Contract prg 53 [] (mkR (1 : Int)).pv := law_one.e0 _ (CFr.Of 1 (by unfold InI64; omega))
theorem Check2 (l : ALaw) (hl : l.pieces.length < 4611686018427387904) (hf : ∀ p ∈ l.pieces, FitP 274877906944 p) : ∀ (j t : Nat), l.pieces.length - t = j → law_Check.Loop2 l t (errPV (errOf (chkP (l.pieces.drop t)))) := by
  intro j
  induction j with
  | zero =>
    intro t hj
    rw [List.drop_of_length_le (by omega)]
    exact law_Check.l23 l t (by omega)
  | succ j ih =>
    intro t hj
    obtain ⟨v, hv⟩ : ∃ v, l.pieces[t]? = some v := ⟨_, List.getElem?_eq_getElem (by omega)⟩
    have hvf := hf v (List.mem_of_getElem? hv)
    have hc := CPo.Check v hvf
    rw [drop_cons hv, chkP]
    by_cases h0 : chk v = 0
    · rw [decide_eq_false (by simpa using h0), cond_false]
      rw [h0] at hc
      have hd := poly_Degree.e0 v (by have := chk_len h0; unfold InI64; omega)
      by_cases h9 : 9 < v.length
      · rw [show Nat.blt 9 v.length = true from by simpa [Nat.blt_eq] using h9, cond_true]
        exact law_Check.l20 l t v _ (by omega) hv hc hd (by omega)
      · rw [show Nat.blt 9 v.length = false from by cases hb : Nat.blt 9 v.length with
          | false => rfl
          | true => exact absurd (by simpa [Nat.blt_eq] using hb) h9, cond_false]
        exact law_Check.l21 l t v _ (by omega) hv hc hd (by omega) (by omega) (ih (t + 1) (by omega))
    · rw [decide_eq_true h0, cond_true]
      rw [errOf_ne h0] at hc ⊢
      exact law_Check.l22 l t v _ (by omega) hv hc
theorem Check (l : ALaw) (hf : FitW 1073741824 l) : Contract prg 24 [l.pv] (errPV (errOf (chkLaw l))) := by
  unfold chkLaw
  by_cases h0 : l.breaks.length = 0
  · rw [if_pos (Or.inl h0)]; exact law_Check.e0 l h0
  by_cases h1 : l.breaks.length = l.pieces.length
  · rw [if_neg (by intro h; rcases h with h | h <;> omega)]
    by_cases h2 : 16 < l.breaks.length
    · rw [if_pos h2]; exact law_Check.e2 l h0 h1 h2
    · rw [if_neg h2]
      have hps : ∀ p ∈ l.pieces, FitP 274877906944 p := fun p hp a ha => ⟨by have := (hf.2 p hp a ha).1; omega, by have := (hf.2 p hp a ha).2; omega⟩
      have loop : ∀ (j t : Nat) (p : Option Rat), l.breaks.length - t = j → t ≤ l.breaks.length → (t = 0 → p = none) → (∀ k v, t = k + 1 → l.breaks[k]? = some v → p = some v.val) → law_Check.Loop1 l t (errPV (errOf (chkR p (l.breaks.drop t) l.pieces))) := by
        intro j
        induction j with
        | zero =>
          intro t p hj ht _ _
          rw [List.drop_of_length_le (by omega), chkR_nil]
          refine law_Check.l110 l t (by omega) ?_
          have := Check2 l (by omega) hps _ 0 rfl
          rwa [List.drop_zero] at this
        | succ j ih =>
          intro t p hj ht hp0 hp
          obtain ⟨v, hv⟩ : ∃ v, l.breaks[t]? = some v := ⟨_, List.getElem?_eq_getElem (by omega)⟩
          have hvf := hf.1 v (List.mem_of_getElem? hv)
          have hva := CFr.Valid v ⟨by omega, by omega⟩
          have hsg := CFr.Sign v ⟨by omega, by omega⟩
          have hone := one
          have hcm := CFr.Cmp v (mkR (1 : Int)) ⟨by omega, by omega⟩ ⟨by decide, by decide⟩
          rw [mkR_val, show ((1 : Int) : Rat) = 1 from rfl] at hcm
          rw [drop_cons hv]
          cases hvv : v.valid with
          | false =>
            rw [chkR_stop (chkB_out (outB_inv hvv)) (by omega)]
            exact law_Check.l10 l t v _ (by omega) hv hva hvv
          | true =>
            by_cases hs : v.val < 0
            · rw [chkR_stop (chkB_out (outB_lt hs)) (by omega)]
              exact law_Check.l11 l t v _ _ (by omega) hv hva hvv hsg (cmpR_lt.2 hs)
            · have hs' : 0 ≤ cmpR v.val 0 := cmpR_ge.2 (by grind)
              by_cases hc : 1 ≤ v.val
              · rw [chkR_stop (chkB_out (outB_ge hc)) (by omega)]
                exact law_Check.l12 l t v _ _ _ _ (by omega) hv hva hvv hsg hs' hone hcm (cmpR_ge.2 hc)
              · have ho := outB_no hvv hs hc
                have hc' : cmpR v.val 1 < 0 := cmpR_lt.2 (by grind)
                by_cases ht0 : t = 0
                · have := hp0 ht0
                  subst this
                  by_cases hz : v.val = 0
                  · rw [chkR_cons ho (by unfold badB; exact decide_eq_false (by simpa using hz))]
                    refine law_Check.l16 l t v _ _ _ _ _ (by omega) hv hva hvv hsg hs' hone hcm hc' ht0 hsg (cmpR_eq.2 hz) (by omega) (by omega) (ih (t + 1) _ (by omega) (by omega) (by omega) ?_)
                    intro k u hk hu
                    have : k = t := by omega
                    subst this
                    rw [hv] at hu; injection hu with hu; rw [hu]
                  · rw [chkR_stop (chkB_bad ho (by unfold badB; exact decide_eq_true hz)) (by omega)]
                    exact law_Check.l13 l t v _ _ _ _ _ (by omega) hv hva hvv hsg hs' hone hcm hc' ht0 hsg (fun e => hz (cmpR_eq.1 e))
                · obtain ⟨k, hk⟩ : ∃ k, t = k + 1 := ⟨t - 1, by omega⟩
                  obtain ⟨u, hu⟩ : ∃ u, l.breaks[k]? = some u := ⟨_, List.getElem?_eq_getElem (by omega)⟩
                  have := hp k u hk hu
                  subst this
                  have huf := hf.1 u (List.mem_of_getElem? hu)
                  have hcu := CFr.Cmp v u ⟨by omega, by omega⟩ ⟨by omega, by omega⟩
                  by_cases hz : v.val ≤ u.val
                  · rw [chkR_stop (chkB_bad ho (by unfold badB; exact decide_eq_true hz)) (by omega)]
                    exact law_Check.l17 l t v _ _ _ _ k u _ (by omega) hv hva hvv hsg hs' hone hcm hc' ht0 (by omega) (by unfold InI64; omega) (by omega) hu hcu (cmpR_le.2 hz)
                  · rw [chkR_cons ho (by unfold badB; exact decide_eq_false hz)]
                    refine law_Check.l18 l t v _ _ _ _ k u _ (by omega) hv hva hvv hsg hs' hone hcm hc' ht0 (by omega) (by unfold InI64; omega) (by omega) hu hcu (cmpR_gt.2 (by grind)) (by omega) (ih (t + 1) _ (by omega) (by omega) (by omega) ?_)
                    intro k' u' hk' hu'
                    have : k' = t := by omega
                    subst this
                    rw [hv] at hu'; injection hu' with hu'; rw [hu']
      refine law_Check.e3 l h0 h1 (by omega) ?_
      have := loop _ 0 none rfl (by omega) (fun _ => rfl) (fun k v h => by omega)
      rwa [List.drop_zero] at this
  · rw [if_pos (Or.inr h1)]; exact law_Check.e1 l h0 h1
theorem wrapped (x : ARat) (h : x.num.length ≤ 1073741824 ∧ x.den.length ≤ 1073741824) : Contract prg 66 [x.pv] (.tup [(mkR (frac x.val)).pv, .nilI]) := by
  obtain ⟨f1, f2⟩ := h
  have hh := ht_fit (k := 1073741824) f1 f2 (by omega)
  have hfl := CFr.Floor x ⟨by omega, by omega⟩
  have hw := wl_floor x.val
  have hfr := CFr.From (Sym.whole x.val.floor) (⟨false, [(1 : UInt32)]⟩ : AWhole) (show wl _ ≤ _ by omega) (by decide) (by decide)
  rw [whole_val, show Rat.divInt x.val.floor (⟨false, [(1 : UInt32)]⟩ : AWhole).val = (x.val.floor : Rat) from by rw [show (⟨false, [(1 : UInt32)]⟩ : AWhole).val = 1 from rfl, Rat.divInt_eq_div]; grind] at hfr
  have hi := ht_int x.val.floor
  have hs := CFr.Sub x (mkR (x.val.floor : Rat)) ⟨by omega, by omega⟩ (fit_mkR (by omega))
  rw [mkR_val] at hs
  exact law_wrapped.e0 x _ _ _ _ hfl law_whole.e0 hfr hs
theorem piece (l : ALaw) (x : ARat) (g : Good l) (hf : FitP 1073741824 l.breaks) (hx : x.num.length ≤ 1073741824 ∧ x.den.length ≤ 1073741824) (h0 : 0 ≤ x.val) : Contract prg 67 [l.pv, x.pv] (vI (pieceL (vals l.breaks) x.val : Nat)) := by
  have hlen : (vals l.breaks).length = l.breaks.length := by unfold vals; rw [List.length_map]
  have hle := g.le
  have hn0 := g.n0
  have loop : ∀ (n : Nat), n < l.breaks.length → (∀ b, (vals l.breaks)[n + 1]? = some b → x.val < b) → law_piece.Loop1 (n : Int) l x (vI (pieceL (vals l.breaks) x.val : Nat)) := by
    intro n
    induction n with
    | zero =>
      intro hn hup
      obtain ⟨v, hv⟩ : ∃ v, l.breaks[0]? = some v := ⟨_, List.getElem?_eq_getElem (by omega)⟩
      have hvf := hf v (List.mem_of_getElem? hv)
      have hc := CFr.Cmp v x ⟨by omega, by omega⟩ ⟨by omega, by omega⟩
      have e := g.first v hv
      have hp : pieceL (vals l.breaks) x.val = 0 := by
        refine pieceF_eq _ _ 0 (fun j b hj => by omega) (fun b hb => hup b ?_) (by omega)
        rw [List.getElem?_drop] at hb; rw [Nat.add_comm]; exact hb
      rw [hp]
      refine law_piece.l11 _ l x 0 v _ (by omega) hv hc (cmpR_le.2 (by grind))
    | succ n ih =>
      intro hn hup
      obtain ⟨v, hv⟩ : ∃ v, l.breaks[n + 1]? = some v := ⟨_, List.getElem?_eq_getElem (by omega)⟩
      have hvf := hf v (List.mem_of_getElem? hv)
      have hvv : (vals l.breaks)[n + 1]? = some v.val := by unfold vals; rw [List.getElem?_map, hv]; rfl
      have hc := CFr.Cmp v x ⟨by omega, by omega⟩ ⟨by omega, by omega⟩
      by_cases hle2 : v.val ≤ x.val
      · have hp : pieceL (vals l.breaks) x.val = n + 1 := by
          refine pieceF_eq _ _ (n + 1) (fun j b hj hb => ?_) (fun b hb => hup b ?_) (by rw [List.length_drop]; omega)
          · rw [List.getElem?_drop] at hb
            by_cases hjn : j = n
            · subst hjn
              rw [Nat.add_comm, hvv] at hb; injection hb with hb; rw [← hb]; exact hle2
            · have h1 : 1 + j < (vals l.breaks).length := (List.getElem?_eq_some_iff.1 hb).1
              have h2 : n + 1 < (vals l.breaks).length := by omega
              have := List.pairwise_iff_getElem.1 g.asc (1 + j) (n + 1) h1 h2 (by omega)
              rw [(List.getElem?_eq_some_iff.1 hb).2, (List.getElem?_eq_some_iff.1 hvv).2] at this
              grind
          · rw [List.getElem?_drop] at hb; rw [Nat.add_comm]; exact hb
        rw [hp]
        refine law_piece.l11 _ l x (n + 1) v _ (by omega) hv hc (cmpR_le.2 (by grind))
      · refine law_piece.l10 _ l x (n + 1) v _ (by omega) hv hc (cmpR_gt.2 (by grind)) (by unfold InI64; omega) ?_
        have := ih (by omega) (fun b hb => by rw [hvv] at hb; injection hb with hb; rw [← hb]; grind)
        rwa [show ((n + 1 : Nat) : Int) - 1 = (n : Int) from by omega]
  have := loop (l.breaks.length - 1) (by omega) (fun b hb => by
    rw [List.getElem?_eq_none (by omega)] at hb; cases hb)
  refine law_piece.e0 l x (by unfold InI64; omega) ?_
  rwa [show ((l.breaks.length - 1 : Nat) : Int) = (l.breaks.length : Int) - 1 from by omega] at this
theorem frac_nonneg (x : Rat) : 0 ≤ frac x := by
  have := Rat.floor_le (a := x)
  unfold frac
  grind
theorem At (l : ALaw) (x : ARat) (hc : chkLaw l = 0) (hf : FitW 1048576 l) (hv : x.valid = true) (hx : x.num.length ≤ 1048576 ∧ x.den.length ≤ 1048576) : Contract prg 21 [l.pv, x.pv] (.tup [(mkR (atW l x.val)).pv, .nilI]) := by
  have g := good_of hc
  have hk := Check l ⟨fun a ha => ⟨by have := (hf.1 a ha).1; omega, by have := (hf.1 a ha).2; omega⟩, fun p hp a ha => ⟨by have := (hf.2 p hp a ha).1; omega, by have := (hf.2 p hp a ha).2; omega⟩⟩
  rw [hc] at hk
  have hva := CFr.Valid x ⟨by omega, by omega⟩
  have hw := wrapped x ⟨by omega, by omega⟩
  have hxv := hv
  obtain ⟨f1, f2⟩ := hx
  have hh := ht_fit (k := 1048576) f1 f2 (by omega)
  have hfr := ht_frac hh
  have hxf := fit_mkRk (k := 2097154) (q := frac x.val) (by omega)
  have hn0 := g.n0
  have hlen := g.len
  have hle := g.le
  have hlen2 : (vals l.breaks).length = l.breaks.length := by unfold vals; rw [List.length_map]
  have hlt := pieceL_lt (bs := vals l.breaks) (by omega) (frac x.val)
  obtain ⟨v, hv⟩ : ∃ v, l.breaks[pieceL (vals l.breaks) (frac x.val)]? = some v := ⟨_, List.getElem?_eq_getElem (by omega)⟩
  obtain ⟨p, hp⟩ : ∃ p, l.pieces[pieceL (vals l.breaks) (frac x.val)]? = some p := ⟨_, List.getElem?_eq_getElem (by omega)⟩
  have hvf := hf.1 v (List.mem_of_getElem? hv)
  have hpf := hf.2 p (List.mem_of_getElem? hp)
  have hvh := ht_fit hvf.1 hvf.2 (by omega)
  obtain ⟨hpc, hpl⟩ := g.ps p (List.mem_of_getElem? hp)
  have hsub := CFr.Sub (mkR (frac x.val)) v ⟨by omega, by omega⟩ ⟨by omega, by omega⟩
  rw [mkR_val] at hsub
  have hsf := fit_mkRk (k := 1073741824) (q := frac x.val - v.val) (by have := ht_sub (frac x.val) v.val; omega)
  have e : atW l x.val = evalL (vals p) (frac x.val - v.val) := by unfold atW; rw [List.getD_eq_getElem?_getD, List.getD_eq_getElem?_getD, hv, hp]; rfl
  rw [e]
  have hpi := piece l (mkR (frac x.val)) g (fun a ha => ⟨by have := (hf.1 a ha).1; omega, by have := (hf.1 a ha).2; omega⟩) ⟨by omega, by omega⟩ (by rw [mkR_val]; exact frac_nonneg _)
  rw [mkR_val] at hpi
  have hev := CPo.Eval p (mkR (frac x.val - v.val)) hpc (fun a ha => ⟨by have := (hpf a ha).1; omega, by have := (hpf a ha).2; omega⟩) hsf
  rw [mkR_val] at hev
  exact law_At.e1 l x _ _ _ _ p _ v _ _ none hk hva hxv hw hpi rfl hp rfl hv hsub hev
theorem end' (l : ALaw) (i : Nat) (hl : l.breaks.length ≤ 1073741824) (hi : i < l.breaks.length) (hv : l.breaks.all ARat.valid = true) : Contract prg 88 [l.pv, vI (i : Int)] (mkR (endW l i)).pv := by
  unfold endW
  cases h : l.breaks[i + 1]? with
  | some v =>
    have h1 := (List.getElem?_eq_some_iff.1 h).1
    show Contract prg _ _ (mkR v.val).pv
    rw [mkR_of (List.all_eq_true.1 hv v (List.mem_of_getElem? h))]
    exact law_end.e0 l i (i + 1) v (by unfold InI64; omega) (by omega) (by omega) h
  | none =>
    have h1 := List.getElem?_eq_none_iff.1 h
    exact law_end.e1 l i _ (by unfold InI64; omega) (by omega) one
end CLw
end Go.Proofs.YtcgbmnkgmepikaaGreat.Sym
namespace Go.Proofs.YtcgbmnkgmepikaaGreat.Sym
open Go Path CInt
set_option linter.unusedVariables false
namespace CRl
theorem Check2 (l : ALaw) (hl : l.pieces.length < 4611686018427387904) (hf : ∀ p ∈ l.pieces, FitP 274877906944 p) : ∀ (j t : Nat), l.pieces.length - t = j → linkworkref52_Check.Loop2 t l (vI (chkP (l.pieces.drop t))) := by
  intro j
  induction j with
  | zero =>
    intro t hj
    rw [List.drop_of_length_le (by omega)]
    exact linkworkref52_Check.l23 t l (by omega)
  | succ j ih =>
    intro t hj
    obtain ⟨v, hv⟩ : ∃ v, l.pieces[t]? = some v := ⟨_, List.getElem?_eq_getElem (by omega)⟩
    have hvf := hf v (List.mem_of_getElem? hv)
    have hc := CRe.Check v hvf
    rw [drop_cons hv, chkP]
    by_cases h0 : chk v = 0
    · rw [decide_eq_false (by simpa using h0), cond_false]
      by_cases h9 : 9 < v.length
      · rw [show Nat.blt 9 v.length = true from by simpa [Nat.blt_eq] using h9, cond_true]
        exact linkworkref52_Check.l21 t l v _ (by omega) hv hc h0 h9
      · rw [show Nat.blt 9 v.length = false from by cases hb : Nat.blt 9 v.length with
          | false => rfl
          | true => exact absurd (by simpa [Nat.blt_eq] using hb) h9, cond_false]
        exact linkworkref52_Check.l22 t l v _ (by omega) hv hc h0 (by omega) (by omega) (ih (t + 1) (by omega))
    · rw [decide_eq_true h0, cond_true]
      exact linkworkref52_Check.l20 t l v _ (by omega) hv hc h0
theorem Check (l : ALaw) (hf : FitW 1073741824 l) : Contract prg 23 [l.pv] (vI (chkLaw l)) := by
  unfold chkLaw
  by_cases h0 : l.breaks.length = 0
  · rw [if_pos (Or.inl h0)]; exact linkworkref52_Check.e0 l h0
  by_cases h1 : l.breaks.length = l.pieces.length
  · rw [if_neg (by intro h; rcases h with h | h <;> omega)]
    by_cases h2 : 16 < l.breaks.length
    · rw [if_pos h2]; exact linkworkref52_Check.e2 l h0 h1 h2
    · rw [if_neg h2]
      have hps : ∀ p ∈ l.pieces, FitP 274877906944 p := fun p hp a ha => ⟨by have := (hf.2 p hp a ha).1; omega, by have := (hf.2 p hp a ha).2; omega⟩
      have loop : ∀ (j t : Nat) (p : Option Rat), l.breaks.length - t = j → t ≤ l.breaks.length → (t = 0 → p = none) → (∀ k v, t = k + 1 → l.breaks[k]? = some v → p = some v.val) → linkworkref52_Check.Loop1 t l (vI (chkR p (l.breaks.drop t) l.pieces)) := by
        intro j
        induction j with
        | zero =>
          intro t p hj ht _ _
          rw [List.drop_of_length_le (by omega), chkR_nil]
          refine linkworkref52_Check.l110 t l (by omega) ?_
          have := Check2 l (by omega) hps _ 0 rfl
          rwa [List.drop_zero] at this
        | succ j ih =>
          intro t p hj ht hp0 hp
          obtain ⟨v, hv⟩ : ∃ v, l.breaks[t]? = some v := ⟨_, List.getElem?_eq_getElem (by omega)⟩
          have hvf := hf.1 v (List.mem_of_getElem? hv)
          have hva := CRb.Valid v ⟨by omega, by omega⟩
          have hsg := CRb.Sign v ⟨by omega, by omega⟩
          have hone := (CRb.Of 1 (by unfold InI64; omega))
          have hcm := CRb.Cmp v (mkR (1 : Int)) ⟨by omega, by omega⟩ ⟨by decide, by decide⟩
          rw [mkR_val, show ((1 : Int) : Rat) = 1 from rfl] at hcm
          rw [drop_cons hv]
          cases hvv : v.valid with
          | false =>
            rw [chkR_stop (chkB_out (outB_inv hvv)) (by omega)]
            exact linkworkref52_Check.l10 t l v _ (by omega) hv hva hvv
          | true =>
            by_cases hs : v.val < 0
            · rw [chkR_stop (chkB_out (outB_lt hs)) (by omega)]
              exact linkworkref52_Check.l11 t l v _ _ (by omega) hv hva hvv hsg (cmpR_lt.2 hs)
            · have hs' : 0 ≤ cmpR v.val 0 := cmpR_ge.2 (by grind)
              by_cases hc : 1 ≤ v.val
              · rw [chkR_stop (chkB_out (outB_ge hc)) (by omega)]
                exact linkworkref52_Check.l12 t l v _ _ _ _ (by omega) hv hva hvv hsg hs' hone hcm (cmpR_ge.2 hc)
              · have ho := outB_no hvv hs hc
                have hc' : cmpR v.val 1 < 0 := cmpR_lt.2 (by grind)
                by_cases ht0 : t = 0
                · have := hp0 ht0
                  subst this
                  by_cases hz : v.val = 0
                  · rw [chkR_cons ho (by unfold badB; exact decide_eq_false (by simpa using hz))]
                    refine linkworkref52_Check.l16 t l v _ _ _ _ _ (by omega) hv hva hvv hsg hs' hone hcm hc' ht0 hsg (cmpR_eq.2 hz) (by omega) (by omega) (ih (t + 1) _ (by omega) (by omega) (by omega) ?_)
                    intro k u hk hu
                    have : k = t := by omega
                    subst this
                    rw [hv] at hu; injection hu with hu; rw [hu]
                  · rw [chkR_stop (chkB_bad ho (by unfold badB; exact decide_eq_true hz)) (by omega)]
                    exact linkworkref52_Check.l13 t l v _ _ _ _ _ (by omega) hv hva hvv hsg hs' hone hcm hc' ht0 hsg (fun e => hz (cmpR_eq.1 e))
                · obtain ⟨k, hk⟩ : ∃ k, t = k + 1 := ⟨t - 1, by omega⟩
                  obtain ⟨u, hu⟩ : ∃ u, l.breaks[k]? = some u := ⟨_, List.getElem?_eq_getElem (by omega)⟩
                  have := hp k u hk hu
                  subst this
                  have huf := hf.1 u (List.mem_of_getElem? hu)
                  have hcu := CRb.Cmp v u ⟨by omega, by omega⟩ ⟨by omega, by omega⟩
                  by_cases hz : v.val ≤ u.val
                  · rw [chkR_stop (chkB_bad ho (by unfold badB; exact decide_eq_true hz)) (by omega)]
                    exact linkworkref52_Check.l17 t l v _ _ _ _ k u _ (by omega) hv hva hvv hsg hs' hone hcm hc' ht0 (by omega) (by unfold InI64; omega) (by omega) hu hcu (cmpR_le.2 hz)
                  · rw [chkR_cons ho (by unfold badB; exact decide_eq_false hz)]
                    refine linkworkref52_Check.l18 t l v _ _ _ _ k u _ (by omega) hv hva hvv hsg hs' hone hcm hc' ht0 (by omega) (by unfold InI64; omega) (by omega) hu hcu (cmpR_gt.2 (by grind)) (by omega) (ih (t + 1) _ (by omega) (by omega) (by omega) ?_)
                    intro k' u' hk' hu'
                    have : k' = t := by omega
                    subst this
                    rw [hv] at hu'; injection hu' with hu'; rw [hu']
      refine linkworkref52_Check.e3 l h0 h1 (by omega) ?_
      have := loop _ 0 none rfl (by omega) (fun _ => rfl) (fun k v h => by omega)
      rwa [List.drop_zero] at this
  · rw [if_pos (Or.inr h1)]; exact linkworkref52_Check.e1 l h0 h1
theorem End (l : ALaw) (i : Nat) (hl : l.breaks.length ≤ 1073741824) (hi : i < l.breaks.length) (hv : l.breaks.all ARat.valid = true) : Contract prg 97 [l.pv, vI (i : Int)] (mkR (endW l i)).pv := by
  unfold endW
  cases h : l.breaks[i + 1]? with
  | some v =>
    have h1 := (List.getElem?_eq_some_iff.1 h).1
    show Contract prg _ _ (mkR v.val).pv
    rw [mkR_of (List.all_eq_true.1 hv v (List.mem_of_getElem? h))]
    exact linkworkref52_End.e0 l i (i + 1) v (by unfold InI64; omega) (by omega) (by omega) h
  | none =>
    have h1 := List.getElem?_eq_none_iff.1 h
    exact linkworkref52_End.e1 l i _ (by unfold InI64; omega) (by omega) (CRb.Of 1 (by unfold InI64; omega))
end CRl
end Go.Proofs.YtcgbmnkgmepikaaGreat.Sym
namespace Go.Proofs.YtcgbmnkgmepikaaGreat.Sym
open Go Path CInt
set_option linter.unusedVariables false
theorem ht_of_i64 {n : Int} (h : InI64 n) : ht (n : Rat) ≤ 2 := by
  rw [ht_int]
  have : wl n ≤ 2 := wl_le (by unfold InI64 at h; omega)
  omega
namespace CLw
theorem Rise1 (cs : List Int) (s u : Rat) (x : ARat) (hs : ht s ≤ 1024) (hu : ht u ≤ 1024) (hcs : ∀ n ∈ cs, InI64 n) (hl : cs.length ≤ 100) : ∀ (j t : Nat) (site : List ARat) (w : Rat), cs.length - t = j → 1 ≤ t → t ≤ cs.length → site.length = t → ht w ≤ 1024 * (t + 1) → Fl 1048576 (vals site) → FitP 1048576 site →
    law_Rise.Loop1 site cs cs.length t x (mkR s) (mkR u) (mkR w) (.tup [polyPV ((trimL (vals site ++ riseG s u w (cs.drop t))).map mkR), .nilI]) := by
  intro j
  induction j with
  | zero =>
    intro t site w hj h1 htt hsl hw hfl hfit
    rw [List.drop_of_length_le (by omega), riseG, List.append_nil]
    exact law_Rise.l12 site cs _ t x _ _ _ _ (by omega) (CPo.Trim site (by omega) (fun a ha => ⟨by have := (hfit a ha).1; omega, by have := (hfit a ha).2; omega⟩))
  | succ j ih =>
    intro t site w hj h1 htt hsl hw hfl hfit
    obtain ⟨n, hn⟩ : ∃ n, cs[t]? = some n := ⟨_, List.getElem?_eq_getElem (by omega)⟩
    have hni := hcs n (List.mem_of_getElem? hn)
    have hof := CFr.Of n hni
    have hn2 := ht_of_i64 hni
    have m1 := CFr.Mul (mkR (n : Rat)) (mkR w) (fit_mkR (by omega)) (fit_mkR (by omega))
    rw [mkR_val, mkR_val] at m1
    have b1 := ht_mul (n : Rat) w
    have m2 := CFr.Mul (mkR s) (mkR ((n : Rat) * w)) (fit_mkR (by omega)) (fit_mkR (by omega))
    rw [mkR_val, mkR_val] at m2
    have b2 := ht_mul s ((n : Rat) * w)
    have m3 := CFr.Mul (mkR w) (mkR u) (fit_mkR (by omega)) (fit_mkR (by omega))
    rw [mkR_val, mkR_val] at m3
    have b3 := ht_mul w u
    have hb : ht (s * ((n : Rat) * w)) ≤ 1048576 := by omega
    have := ih (t + 1) (site ++ [mkR (s * ((n : Rat) * w))]) (w * u) (by omega) (by omega) (by omega) (by simp; omega) (by omega) (by
      unfold vals; rw [List.map_append]
      intro y hy
      rcases List.mem_append.1 hy with hy | hy
      · exact hfl y hy
      · have : y = s * ((n : Rat) * w) := by simpa [mkR_val] using hy
        rw [this]; exact hb) (by
      intro a ha
      rcases List.mem_append.1 ha with ha | ha
      · exact hfit a ha
      · have : a = mkR (s * ((n : Rat) * w)) := by simpa using ha
        rw [this]; exact fit_mkRk hb)
    have e : vals (site ++ [mkR (s * ((n : Rat) * w))]) = vals site ++ [s * ((n : Rat) * w)] := by
      unfold vals; rw [List.map_append]; simp [mkR_val]
    rw [e, List.append_assoc] at this
    rw [drop_cons hn, riseG]
    exact law_Rise.l11 site cs _ t x _ _ _ n _ _ _ _ (by omega) (by omega) hn hof m1 m2 (by omega) (by simp; omega) m3 (by omega) this
theorem Rise (len x y : ARat) (degree : Int) (h1 : len.num.length ≤ 4 ∧ len.den.length ≤ 4) (h2 : x.num.length ≤ 4 ∧ x.den.length ≤ 4) (h3 : y.num.length ≤ 4 ∧ y.den.length ≤ 4) (hc : riseC len x y degree = 0) :
    Contract prg 12 [len.pv, x.pv, y.pv, vI degree] (.tup [polyPV ((riseL len.val x.val y.val degree).map mkR), .nilI]) := by
  unfold riseC at hc
  cases hb : (!len.valid || (decide (len.val ≤ 0) || (!x.valid || !y.valid))) with
  | true => rw [hb] at hc; cases hc
  | false =>
    rw [hb, cond_false] at hc
    simp only [Bool.or_eq_false_iff, Bool.not_eq_false', decide_eq_false_iff_not] at hb
    obtain ⟨v1, v2, v3, v4⟩ := hb
    have c1 := CFr.Valid len ⟨by omega, by omega⟩
    have c2 := CFr.Sign len ⟨by omega, by omega⟩
    have c3 := CFr.Valid x ⟨by omega, by omega⟩
    have c4 := CFr.Valid y ⟨by omega, by omega⟩
    have hp : 0 < cmpR len.val 0 := cmpR_gt.2 (by grind)
    have a1 := ht_fit h1.1 h1.2 (by omega)
    have a2 := ht_fit h2.1 h2.2 (by omega)
    have a3 := ht_fit h3.1 h3.2 (by omega)
    have c5 := CFr.Sub y x ⟨by omega, by omega⟩ ⟨by omega, by omega⟩
    have b1 := ht_sub y.val x.val
    have c6 := CLw.one
    have hone : ht ((1 : Int) : Rat) = 1 := by decide
    have c7 := CFr.Div (mkR ((1 : Int) : Rat)) len (fit_mkR (by omega)) ⟨by omega, by omega⟩ (by grind)
    rw [mkR_val] at c7
    have b2 := ht_div ((1 : Int) : Rat) len.val
    have eone : ((1 : Int) : Rat) = 1 := rfl
    have first : ∀ cs : List Int, cs[0]? = some 0 → (∀ n ∈ cs, InI64 n) → cs.length ≤ 100 → law_Rise.Loop1 [] cs cs.length 0 x (mkR (y.val - x.val)) (mkR (((1 : Int) : Rat) / len.val)) (mkR ((1 : Int) : Rat)) (.tup [polyPV ((trimL (x.val :: riseG (y.val - x.val) (1 / len.val) (1 / len.val) (cs.drop 1))).map mkR), .nilI]) := by
      intro cs h0 hcs hl
      have hpos := (List.getElem?_eq_some_iff.1 h0).1
      have hof := CFr.Of 0 (by unfold InI64; omega)
      have z0 : ht ((0 : Int) : Rat) = 1 := by decide
      have m1 := CFr.Mul (mkR ((0 : Int) : Rat)) (mkR ((1 : Int) : Rat)) (fit_mkR (by omega)) (fit_mkR (by omega))
      rw [mkR_val, mkR_val] at m1
      have d1 := ht_mul ((0 : Int) : Rat) ((1 : Int) : Rat)
      have m2 := CFr.Mul (mkR (y.val - x.val)) (mkR (((0 : Int) : Rat) * ((1 : Int) : Rat))) (fit_mkR (by omega)) (fit_mkR (by omega))
      have m3 := CFr.Mul (mkR ((1 : Int) : Rat)) (mkR (((1 : Int) : Rat) / len.val)) (fit_mkR (by omega)) (fit_mkR (by omega))
      rw [mkR_val, mkR_val] at m3
      have e : ((1 : Int) : Rat) * (((1 : Int) : Rat) / len.val) = ((1 : Int) : Rat) / len.val := by rw [eone, Rat.one_mul]
      rw [e] at m3
      have := Rise1 cs (y.val - x.val) (((1 : Int) : Rat) / len.val) x (by omega) (by omega) hcs hl _ 1 [x] (((1 : Int) : Rat) / len.val) rfl (by omega) (by omega) rfl (by omega) (by
        intro q hq
        have : q = x.val := by simpa [vals] using hq
        rw [this]; omega) (by
        intro a ha
        have : a = x := by simpa using ha
        rw [this]; exact ⟨by omega, by omega⟩)
      exact law_Rise.l10 [] cs _ 0 x _ _ _ 0 _ _ _ _ (by omega) hpos h0 hof m1 m2 rfl (by simp) m3 (by omega) this
    unfold riseL riseN
    by_cases d1 : degree = 1
    · rw [if_pos d1]
      exact law_Rise.e4 len x y degree _ _ _ _ _ _ _ _ c1 v1 c2 hp c3 v3 c4 v4 d1 c5 c6 c7 c6 (first [0, 1] rfl (by unfold InI64; decide) (by decide))
    · rw [if_neg d1]
      by_cases d3 : degree = 3
      · rw [if_pos d3]
        exact law_Rise.e6 len x y degree _ _ _ _ _ _ _ _ c1 v1 c2 hp c3 v3 c4 v4 d1 d3 c5 c6 c7 c6 (first [0, 0, 3, -2] rfl (by unfold InI64; decide) (by decide))
      · rw [if_neg d3]
        have d5 : degree = 5 := by
          refine Classical.byContradiction fun h => ?_
          rw [if_neg (by omega)] at hc; cases hc
        exact law_Rise.e8 len x y degree _ _ _ _ _ _ _ _ c1 v1 c2 hp c3 v3 c4 v4 d1 d3 d5 c5 c6 c7 c6 (first [0, 0, 0, 10, -15, 6] rfl (by unfold InI64; decide) (by decide))
end CLw
end Go.Proofs.YtcgbmnkgmepikaaGreat.Sym
namespace Go.Proofs.YtcgbmnkgmepikaaGreat.Sym
open Go Path CInt
set_option linter.unusedVariables false
theorem trimL_cons (a : Rat) (r : List Rat) : trimL (a :: r) = bif (trimL r).isEmpty && decide (a = 0) then [] else a :: trimL r := rfl
theorem trimL_cases (a : Rat) (r : List Rat) : (trimL r = [] ∧ a = 0 ∧ trimL (a :: r) = []) ∨ trimL (a :: r) = a :: trimL r := by
  rw [trimL_cons]
  cases h : (trimL r).isEmpty && decide (a = 0) with
  | false => exact Or.inr rfl
  | true =>
    rw [Bool.and_eq_true] at h
    exact Or.inl ⟨List.isEmpty_iff.1 h.1, of_decide_eq_true h.2, rfl⟩
theorem mem_trimL : ∀ {q : List Rat} {y : Rat}, y ∈ trimL q → y ∈ q
  | [], y, h => h
  | a :: r, y, h => by
    rcases trimL_cases a r with ⟨_, _, e⟩ | e
    · rw [e] at h; cases h
    · rw [e] at h
      rcases List.mem_cons.1 h with h | h
      · rw [h]; exact List.mem_cons_self ..
      · exact List.mem_cons_of_mem _ (mem_trimL h)
theorem len_trimL : ∀ q : List Rat, (trimL q).length ≤ q.length
  | [] => by simp [trimL]
  | a :: r => by
    rcases trimL_cases a r with ⟨_, _, e⟩ | e
    · rw [e]; simp
    · rw [e]; simpa using len_trimL r
theorem fl_trimL {k : Nat} {q : List Rat} (h : Fl k q) : Fl k (trimL q) := fun x hx => h x (mem_trimL hx)
theorem lastZ_trimL : ∀ q : List Rat, lastZ (trimL q) = false
  | [] => rfl
  | a :: r => by
    have ih := lastZ_trimL r
    rw [trimL_cons]
    cases h : trimL r with
    | nil =>
      by_cases h0 : a = 0
      · rw [decide_eq_true h0]; rfl
      · rw [decide_eq_false h0]
        unfold lastZ
        exact decide_eq_false h0
    | cons b s =>
      rw [h] at ih
      unfold lastZ at ih ⊢
      rw [show (bif (b :: s).isEmpty && decide (a = 0) then [] else a :: b :: s) = a :: b :: s from rfl]
      rw [List.getLast?_cons_cons]
      exact ih
theorem chk_map {q : List Rat} (h : lastZ q = false) (hl : q.length ≤ 65) : chk (q.map mkR) = 0 := by
  unfold chk
  rw [if_neg (by rw [List.length_map]; omega), vals_mkR, h]
  rw [show (q.map mkR).all ARat.valid = true from by
    rw [List.all_eq_true]
    intro a ha
    obtain ⟨x, _, rfl⟩ := List.mem_map.1 ha
    exact mkR_valid x]
  rfl
theorem fl_derI2 {k : Nat} : ∀ (q : List Rat) (i : Nat), i + q.length ≤ 18446744073709551615 → Fl k q → Fl (k + 2) (derI i q)
  | [], _, _, _ => fun x hx => by cases hx
  | a :: r, i, hi, h => by
    intro x hx
    rw [List.length_cons] at hi
    rcases List.mem_cons.1 hx with e | hx
    · rw [e]
      have h1 := ht_mul ((i : Int) : Rat) a
      have h2 := h a (List.mem_cons_self ..)
      have h3 : ht ((i : Int) : Rat) ≤ 2 := by
        rw [ht_int]
        have : wl (i : Int) ≤ 2 := wl_le (by omega)
        omega
      omega
    · exact fl_derI2 r (i + 1) (by omega) (fun y hy => h y (List.mem_cons_of_mem _ hy)) x hx
theorem fl_deriveL {k : Nat} {q : List Rat} (hl : q.length ≤ 65) (h : Fl k q) : Fl (k + 2) (deriveL q) :=
  fl_trimL (fl_derI2 _ 1 (by rw [List.length_drop]; omega) (fun y hy => h y (List.mem_of_mem_drop hy)))
theorem len_deriveL (q : List Rat) : (deriveL q).length ≤ q.length := by
  unfold deriveL
  have := len_trimL (derI 1 (q.drop 1))
  rw [derI_len, List.length_drop] at this
  omega
theorem lastZ_deriveL (q : List Rat) : lastZ (deriveL q) = false := lastZ_trimL _
end Go.Proofs.YtcgbmnkgmepikaaGreat.Sym
