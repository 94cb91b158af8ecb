/- The statement CamDecides is proved: Positive, Within and Convex of layer 53 return what is specified; no condition. -/
import Derived.Test.YtbgkjomonebfcaaGreatK0
import Derived.Test.YtbgkjomonebfcaaGreatK2
namespace Go.Proofs.YtbgkjomonebfcaaGreat.Sym.Path
open Go
set_option maxRecDepth 20000
set_option linter.unusedVariables false
namespace sturm_Count
theorem e3 (p : List ARat) (lo hi : ARat) (val val1 : Bool) (cmp : Int) (cha : List (List ARat)) (cha2 cha3 : Int) (h1 : Contract prg 216 [(polyPV p)] .nilI) (h2 : Contract prg 97 [lo.pv] (vB val)) (h3 : val = true) (h4 : Contract prg 97 [hi.pv] (vB val1)) (h5 : val1 = true) (h6 : Contract prg 29 [lo.pv, hi.pv] (vI cmp)) (h7 : cmp ≤ 0) (h8 : Contract prg 217 [(polyPV p)] (.tup [(lpv (lcell ARat.cells) cha), .nilI])) (h9 : Contract prg 218 [(lpv (lcell ARat.cells) cha), lo.pv] (vI cha2)) (h10 : Contract prg 218 [(lpv (lcell ARat.cells) cha), hi.pv] (vI cha3)) (h11 : InI64 (cha2 - cha3)) : Contract prg 159 [(polyPV p), lo.pv, hi.pv] (.tup [(vI (cha2 - cha3)), .nilI]) :=
  Contract.ofL Tryz.func159 (by kernel_rfl) (L.done mixed tabOk (n := 129) (ns := [1, 1, 1, 1, 1, 1, 1, 1, 1, 1, 1, 1, 1, 1, 1, 1, 1, 1]) (tr := [.reg [], .reg [.none, (.pv .nilI)], .reg [], .auto, .reg [.none, (.pv (vB val)), .none, .none, .none, (.pv (vB val1)), .none, (.dec false), .none, .none, .none, (.pv (vI cmp)), .none, (.dec false)], .dec false, .reg [.none, (.pv (.tup [(lpv (lcell ARat.cells) cha), .nilI]))], .reg [], .auto, dr 7 2 [.none, .none, (.pv (vI cha2)), .none, .none, (.pv (vI cha3)), (iI (cha2 - cha3))]]) (cj h1 (cj h2 (cj (bnot_f h3) (cj (bnot_f h3) (cj h4 (cj (bnot_f h3) (cj (bnot_f h3) (cj (bnot_f h5) (cj (bnot_f h5) (cj (bnot_f h5) (cj h6 (cj (bnot_f h5) (cj (bnot_f h5) (cj (dlt_f h7) (cj h8 (cj h9 (cj h10 (cj (bs_sub h11) True.intro)))))))))))))))))) (by kernel_rfl))
end sturm_Count
namespace linkworkref06_Count
theorem e4 (p : List ARat) (lo hi : ARat) (err : Int) (val val1 : Bool) (cmp cou : Int) (h1 : Contract prg 220 [(polyPV p)] (vI err)) (h2 : err = 0) (h3 : Contract prg 48 [lo.pv] (vB val)) (h4 : val = true) (h5 : Contract prg 48 [hi.pv] (vB val1)) (h6 : val1 = true) (h7 : Contract prg 99 [lo.pv, hi.pv] (vI cmp)) (h8 : cmp ≤ 0) (h9 : Contract prg 167 [(polyPV p), lo.pv, hi.pv] (vI cou)) : Contract prg 165 [(polyPV p), lo.pv, hi.pv] (.tup [(vI cou), (vI 0)]) :=
  Contract.ofL Tryz.func165 (by kernel_rfl) (L.done mixed tabOk (n := 108) (ns := [1, 1, 1, 1, 1, 1, 1, 1, 1, 1, 1, 1, 1, 1, 1, 1]) (tr := [.reg [], .reg [.none, (.pv (vI err))], .reg [], .dec false, .reg [.none, (.pv (vB val)), .none, .none, .none, (.pv (vB val1)), .none, (.dec false), .none, .none, .none, (.pv (vI cmp)), .none, (.dec false)], .dec false, .reg [.none, .none, .none, (.pv (vI cou))]]) (cj h1 (cj (dne_f h2) (cj h3 (cj (bnot_f h4) (cj (bnot_f h4) (cj h5 (cj (bnot_f h4) (cj (bnot_f h4) (cj (bnot_f h6) (cj (bnot_f h6) (cj (bnot_f h6) (cj h7 (cj (bnot_f h6) (cj (bnot_f h6) (cj (dlt_f h8) (cj h9 True.intro)))))))))))))))) (by kernel_rfl))
end linkworkref06_Count
namespace linkworkref06_count
theorem e0 (p : List ARat) (lo hi : ARat) (cha : List (List ARat)) (cha1 cha2 : Int) (h1 : Contract prg 222 [(polyPV p)] (lpv (lcell ARat.cells) cha)) (h2 : Contract prg 223 [(lpv (lcell ARat.cells) cha), lo.pv] (vI cha1)) (h3 : Contract prg 223 [(lpv (lcell ARat.cells) cha), hi.pv] (vI cha2)) (h4 : InI64 (cha1 - cha2)) : Contract prg 167 [(polyPV p), lo.pv, hi.pv] (vI (cha1 - cha2)) :=
  Contract.ofL Tryz.func167 (by kernel_rfl) (L.done mixed tabOk (n := 78) (ns := [1, 1, 1, 1]) (tr := [.reg [], .reg [.none, (.pv (lpv (lcell ARat.cells) cha))], dr 7 1 [.none, .none, (.pv (vI cha1)), .none, .none, (.pv (vI cha2)), (iI (cha1 - cha2))]]) (cj h1 (cj h2 (cj h3 (cj (bs_sub h4) True.intro)))) (by kernel_rfl))
end linkworkref06_count
namespace sturm_check
theorem e0 (p : List ARat) (h1 : Contract prg 78 [(polyPV p)] .nilI) (h2 : p.length = 0) : Contract prg 216 [(polyPV p)] (.iface 94 (vI 8)) :=
  Contract.ofL Tryz.func216 (by kernel_rfl) (L.done mixed tabOk (n := 105) (ns := [1, 1, 1]) (tr := [.reg [], .reg [.none, (.pv .nilI)], .reg [], .auto, .reg [.none, (iI (p.length : Int))], .dec true, .reg []]) (cj h1 (cj (o_len ARat.cells p) (cj (deqN_t h2) True.intro))) (by kernel_rfl))
theorem e1 (p : List ARat) (h1 : Contract prg 78 [(polyPV p)] .nilI) (h2 : p.length ≠ 0) : Contract prg 216 [(polyPV p)] .nilI :=
  Contract.ofL Tryz.func216 (by kernel_rfl) (L.done mixed tabOk (n := 108) (ns := [1, 1, 1]) (tr := [.reg [], .reg [.none, (.pv .nilI)], .reg [], .auto, .reg [.none, (iI (p.length : Int))], .dec false, .reg []]) (cj h1 (cj (o_len ARat.cells p) (cj (deqN_f h2) True.intro))) (by kernel_rfl))
theorem e2 (p : List ARat) (che : Int) (h1 : Contract prg 78 [(polyPV p)] (.iface 94 (vI che))) : Contract prg 216 [(polyPV p)] (.iface 94 (vI che)) :=
  Contract.ofL Tryz.func216 (by kernel_rfl) (L.done mixed tabOk (n := 90) (ns := [1]) (tr := [.reg [], .reg [.none, (.pv (.iface 94 (vI che)))], .reg [], .auto, .reg []]) (cj h1 True.intro) (by kernel_rfl))
end sturm_check
namespace sturm_chain
@[reducible] noncomputable def fn : Func := Tryz.f217
noncomputable def atK1 : List Itm := focus [0, 2, 0, 2, 0, 0, 2, 1, 2, 0, 2, 0, 0, 2, 1, 2, 0, 2, 0, 0, 0] [.code (bodyOf fn)]
def inv1 (d_6 : List ARat) (site_28 : List (List ARat)) : St := ⟨[(6, (.pv (polyPV d_6))), (7, (.row 28 0 site_28.length 1))], [(28, (.pure ((site_28 : List (List ARat)).map (lcell ARat.cells)).flatten))]⟩
@[reducible] noncomputable def Loop1 (d_6 : List ARat) (site_28 : List (List ARat)) (r : PV) : Prop := L prg fn atK1 (inv1 d_6 site_28) r
theorem e0 (p fre der : List ARat) {r : PV} (h1 : Contract prg 253 [(polyPV p)] (.tup [(polyPV fre), .nilI])) (h2 : Contract prg 231 [(polyPV fre)] (.tup [(polyPV der), .nilI])) (hL : Loop1 der [fre] r) : Contract prg 217 [(polyPV p)] r :=
  Contract.ofL Tryz.func217 (by kernel_rfl) (L.go mixed tabOk (n := 123) (ns := [1, 1]) (tr := [.reg [], .reg [.none, (.pv (.tup [(polyPV fre), .nilI]))], .reg [], .auto, .reg [.none, (.pv (.tup [(polyPV der), .nilI]))], .reg [], .auto, .reg [], .keep [6, 7]]) (cj h1 (cj h2 True.intro)) (by kernel_rfl) hL)
theorem l10 (d_6 : List ARat) (site_28 : List (List ARat)) (k : Nat) (v div div1 : List ARat) (of : ARat) (sca : List ARat) {r : PV} (h1 : 0 < d_6.length) (h2 : ((site_28 ++ [d_6]) : List (List ARat)).length * 24 ≤ 140737488355328) (h3 : InI64 ((((site_28 ++ [d_6]).length : Nat) : Int) - 2)) (h4 : ((((site_28 ++ [d_6]).length : Nat) : Int) - 2) = (k : Int)) (h5 : k < (site_28 ++ [d_6]).length) (h6 : (site_28 ++ [d_6])[k]? = some v) (h7 : Contract prg 254 [(polyPV v), (polyPV d_6)] (.tup [(polyPV div), (polyPV div1), .nilI])) (h8 : Contract prg 73 [(vI (-1))] of.pv) (h9 : Contract prg 72 [(polyPV div1), of.pv] (.tup [(polyPV sca), .nilI])) (hL : Loop1 sca (site_28 ++ [d_6]) r) : Loop1 d_6 site_28 r :=
  L.go mixed tabOk (n := 192) (ns := [1, 1, 6, 1, 2, 1, 1, 1, 1]) (tr := [.auto, .reg [.none, (iI (d_6.length : Int))], .dec true, .reg [.none, .none, .none, (.app ((site_28 ++ [d_6]) : List (List ARat)).length (((site_28 ++ [d_6]) : List (List ARat)).map (lcell ARat.cells)).flatten)], .reg [.none, .none, .none, (iI ((((site_28 ++ [d_6]).length : Nat) : Int) - 2)), (.nat k), (.ev (.pv (polyPV v))), .none, (.pv (.tup [(polyPV div), (polyPV div1), .nilI]))], .reg [], .auto, .reg [.none, (.pv of.pv), (.pv (.tup [(polyPV sca), .nilI]))], .reg [], .auto, .keep [6, 7], .drop [34], .ren 35 28]) (cj (o_len ARat.cells d_6) (cj (dltN_t h1) (cj (o_appR (sz_l ARat.cells) (site_28 : List (List ARat)) ([d_6] : List (List ARat)) 24 (Eq.refl (site_28 : List (List ARat)).length) (Eq.refl ([d_6] : List (List ARat)).length) h2 rfl) (cj (bs_sub h3) (cj (cj h4 h5) (cj (o_get (enc := (lcell ARat.cells)) (f := fun a => (polyPV a)) (fun _ => rfl) h6) (cj h7 (cj h8 (cj h9 True.intro))))))))) (by kernel_rfl) hL
theorem l13 (d_6 : List ARat) (site_28 : List (List ARat)) (h1 : d_6.length ≤ 0) : Loop1 d_6 site_28 (.tup [(lpv (lcell ARat.cells) site_28), .nilI]) :=
  L.done mixed tabOk (n := 156) (ns := [1, 1, 3]) (tr := [.auto, .reg [.none, (iI (d_6.length : Int))], .dec false, .reg [], .frzT 2 ((site_28 : List (List ARat)).map (lcell ARat.cells))]) (cj (o_len ARat.cells d_6) (cj (dltN_f h1) (cj (o_frz (sz_l ARat.cells) (site_28 : List (List ARat)) (Eq.refl (site_28 : List (List ARat)).length)) True.intro))) (by kernel_rfl)
end sturm_chain
namespace sturm_changes
@[reducible] noncomputable def fn : Func := Tryz.f218
noncomputable def atK1 : List Itm := focus [0, 2, 0, 2, 0, 0, 2, 0, 0] [.code (bodyOf fn)]
def inv1 (n_5 : Nat) (last_6 : Int) (l : List (List ARat)) (t_12 : Nat) (x : ARat) : St := ⟨[(3, (.ptr 3 0)), (5, (eI (n_5 : Int))), (6, (eI last_6)), (10, (.pv (lpv (lcell ARat.cells) l))), (11, (eI (l.length : Int))), (12, (eI (t_12 : Int)))], [(3, (.lit [(eB x.neg), (.pv (wordsPV x.num)), (.pv (wordsPV x.den))]))]⟩
@[reducible] noncomputable def Loop1 (n_5 : Nat) (last_6 : Int) (l : List (List ARat)) (t_12 : Nat) (x : ARat) (r : PV) : Prop := L prg fn atK1 (inv1 n_5 last_6 l t_12 x) r
theorem e0 (l : List (List ARat)) (x : ARat) {r : PV}  (hL : Loop1 0 0 l 0 x r) : Contract prg 218 [(lpv (lcell ARat.cells) l), x.pv] r :=
  Contract.ofL Tryz.func218 (by kernel_rfl) (L.go mixed tabOk (n := 87) (ns := [1]) (tr := [.reg [], .reg [], .reg [.none, (iI (l.length : Int))], .keep [3, 5, 6, 10, 11, 12]]) (cj (o_len (lcell ARat.cells) l) True.intro) (by kernel_rfl) hL)
theorem l10 (n_5 : Nat) (last_6 : Int) (l : List (List ARat)) (t_12 : Nat) (x : ARat) (v : List ARat) (val : Int) {r : PV} (h1 : t_12 < l.length) (h2 : l[t_12]? = some v) (h3 : Contract prg 255 [(polyPV v), x.pv] (vI val)) (h4 : val ≠ 0) (h5 : InI64 (-last_6)) (h6 : val = (-last_6)) (h7 : (n_5 + 1) < 9223372036854775808) (h8 : (t_12 + 1) < 9223372036854775808) (hL : Loop1 (n_5 + 1) val l (t_12 + 1) x r) : Loop1 n_5 last_6 l t_12 x r :=
  L.go mixed tabOk (n := 156) (ns := [1, 3, 1, 1, 1, 1, 1, 1]) (tr := [.auto, .reg [], .dec true, .reg [(.row t_12 ((lcell ARat.cells) v))], .reg [.none, .none, (.pv (vI val))], .reg [], .dec true, .reg [.none, .none, (iI (-last_6))], .dec true, .reg [.none, (iI (((n_5 + 1) : Nat) : Int))], .reg [], .reg [(iI (((t_12 + 1) : Nat) : Int))], .keep [3, 5, 6, 10, 11, 12]]) (cj (dltN_t h1) (cj (o_at (lcell ARat.cells) (Eq.refl (((t_12 : Nat) : Int) : Int)) h2) (cj h3 (cj (dne_t h4) (cj (us_neg h5) (cj (deq_t h6) (cj (bs_addN h7) (cj (bs_addN h8) True.intro)))))))) (by kernel_rfl) hL
theorem l11 (n_5 : Nat) (last_6 : Int) (l : List (List ARat)) (t_12 : Nat) (x : ARat) (v : List ARat) (val : Int) {r : PV} (h1 : t_12 < l.length) (h2 : l[t_12]? = some v) (h3 : Contract prg 255 [(polyPV v), x.pv] (vI val)) (h4 : val ≠ 0) (h5 : InI64 (-last_6)) (h6 : val ≠ (-last_6)) (h7 : (t_12 + 1) < 9223372036854775808) (hL : Loop1 n_5 val l (t_12 + 1) x r) : Loop1 n_5 last_6 l t_12 x r :=
  L.go mixed tabOk (n := 156) (ns := [1, 3, 1, 1, 1, 1, 1]) (tr := [.auto, .reg [], .dec true, .reg [(.row t_12 ((lcell ARat.cells) v))], .reg [.none, .none, (.pv (vI val))], .reg [], .dec true, .reg [.none, .none, (iI (-last_6))], .dec false, .reg [], .reg [(iI (((t_12 + 1) : Nat) : Int))], .keep [3, 5, 6, 10, 11, 12]]) (cj (dltN_t h1) (cj (o_at (lcell ARat.cells) (Eq.refl (((t_12 : Nat) : Int) : Int)) h2) (cj h3 (cj (dne_t h4) (cj (us_neg h5) (cj (deq_f h6) (cj (bs_addN h7) True.intro))))))) (by kernel_rfl) hL
theorem l12 (n_5 : Nat) (last_6 : Int) (l : List (List ARat)) (t_12 : Nat) (x : ARat) (v : List ARat) (val : Int) {r : PV} (h1 : t_12 < l.length) (h2 : l[t_12]? = some v) (h3 : Contract prg 255 [(polyPV v), x.pv] (vI val)) (h4 : val = 0) (h5 : (t_12 + 1) < 9223372036854775808) (hL : Loop1 n_5 last_6 l (t_12 + 1) x r) : Loop1 n_5 last_6 l t_12 x r :=
  L.go mixed tabOk (n := 141) (ns := [1, 3, 1, 1, 1]) (tr := [.auto, .reg [], .dec true, .reg [(.row t_12 ((lcell ARat.cells) v))], .reg [.none, .none, (.pv (vI val))], .reg [], .dec false, .reg [(iI (((t_12 + 1) : Nat) : Int))], .keep [3, 5, 6, 10, 11, 12]]) (cj (dltN_t h1) (cj (o_at (lcell ARat.cells) (Eq.refl (((t_12 : Nat) : Int) : Int)) h2) (cj h3 (cj (dne_f h4) (cj (bs_addN h5) True.intro))))) (by kernel_rfl) hL
theorem l13 (n_5 : Nat) (last_6 : Int) (l : List (List ARat)) (t_12 : Nat) (x : ARat) (h1 : l.length ≤ t_12) : Loop1 n_5 last_6 l t_12 x (vI (n_5 : Int)) :=
  L.done mixed tabOk (n := 120) (ns := [1]) (tr := [.auto, .reg [], .dec false, .reg []]) (cj (dltN_f h1) True.intro) (by kernel_rfl)
end sturm_changes
namespace linkworkref06_Error
theorem e0 (p : List ARat) (che : Int) (h1 : Contract prg 83 [(polyPV p)] (vI che)) (h2 : che ≠ 0) : Contract prg 220 [(polyPV p)] (vI che) :=
  Contract.ofL Tryz.func220 (by kernel_rfl) (L.done mixed tabOk (n := 90) (ns := [1, 1]) (tr := [.reg [], .reg [.none, (.pv (vI che))], .reg [], .dec true, .reg []]) (cj h1 (cj (dne_t h2) True.intro)) (by kernel_rfl))
theorem e1 (p : List ARat) (che : Int) (h1 : Contract prg 83 [(polyPV p)] (vI che)) (h2 : che = 0) (h3 : p.length = 0) : Contract prg 220 [(polyPV p)] (vI 8) :=
  Contract.ofL Tryz.func220 (by kernel_rfl) (L.done mixed tabOk (n := 105) (ns := [1, 1, 1, 1]) (tr := [.reg [], .reg [.none, (.pv (vI che))], .reg [], .dec false, .reg [.none, (iI (p.length : Int))], .dec true, .reg []]) (cj h1 (cj (dne_f h2) (cj (o_len ARat.cells p) (cj (deqN_t h3) True.intro)))) (by kernel_rfl))
theorem e2 (p : List ARat) (che : Int) (h1 : Contract prg 83 [(polyPV p)] (vI che)) (h2 : che = 0) (h3 : p.length ≠ 0) : Contract prg 220 [(polyPV p)] (vI 0) :=
  Contract.ofL Tryz.func220 (by kernel_rfl) (L.done mixed tabOk (n := 108) (ns := [1, 1, 1, 1]) (tr := [.reg [], .reg [.none, (.pv (vI che))], .reg [], .dec false, .reg [.none, (iI (p.length : Int))], .dec false, .reg []]) (cj h1 (cj (dne_f h2) (cj (o_len ARat.cells p) (cj (deqN_f h3) True.intro)))) (by kernel_rfl))
end linkworkref06_Error
namespace linkworkref06_chain
@[reducible] noncomputable def fn : Func := Tryz.f222
noncomputable def atK1 : List Itm := focus [0, 2, 0, 2, 0, 2, 0, 2, 0, 0, 0] [.code (bodyOf fn)]
def inv1 (d_5 : List ARat) (site_22 : List (List ARat)) : St := ⟨[(5, (.pv (polyPV d_5))), (7, (.row 22 0 site_22.length 1))], [(22, (.pure ((site_22 : List (List ARat)).map (lcell ARat.cells)).flatten))]⟩
@[reducible] noncomputable def Loop1 (d_5 : List ARat) (site_22 : List (List ARat)) (r : PV) : Prop := L prg fn atK1 (inv1 d_5 site_22) r
theorem e0 (p fre : List ARat) (fre1 : Int) (der : List ARat) (der1 : Int) {r : PV} (h1 : Contract prg 256 [(polyPV p)] (.tup [(polyPV fre), (vI fre1)])) (h2 : Contract prg 238 [(polyPV fre)] (.tup [(polyPV der), (vI der1)])) (hL : Loop1 der [fre] r) : Contract prg 222 [(polyPV p)] r :=
  Contract.ofL Tryz.func222 (by kernel_rfl) (L.go mixed tabOk (n := 93) (ns := [1, 1]) (tr := [.reg [], .reg [.none, (.pv (.tup [(polyPV fre), (vI fre1)]))], .reg [.none, (.pv (.tup [(polyPV der), (vI der1)]))], .reg [], .keep [5, 7]]) (cj h1 (cj h2 True.intro)) (by kernel_rfl) hL)
theorem l10 (d_5 : List ARat) (site_22 : List (List ARat)) (k : Nat) (v div div1 : List ARat) (div2 : Int) (of : ARat) (sca : List ARat) (sca1 : Int) {r : PV} (h1 : 0 < d_5.length) (h2 : ((site_22 ++ [d_5]) : List (List ARat)).length * 24 ≤ 140737488355328) (h3 : InI64 ((((site_22 ++ [d_5]).length : Nat) : Int) - 2)) (h4 : ((((site_22 ++ [d_5]).length : Nat) : Int) - 2) = (k : Int)) (h5 : k < (site_22 ++ [d_5]).length) (h6 : (site_22 ++ [d_5])[k]? = some v) (h7 : Contract prg 257 [(polyPV v), (polyPV d_5)] (.tup [(polyPV div), (polyPV div1), (vI div2)])) (h8 : Contract prg 70 [(vI (-1))] of.pv) (h9 : Contract prg 203 [(polyPV div1), of.pv] (.tup [(polyPV sca), (vI sca1)])) (hL : Loop1 sca (site_22 ++ [d_5]) r) : Loop1 d_5 site_22 r :=
  L.go mixed tabOk (n := 132) (ns := [1, 1, 6, 1, 2, 1, 1, 1, 1]) (tr := [.auto, .reg [.none, (iI (d_5.length : Int))], .dec true, .reg [.none, .none, .none, (.app ((site_22 ++ [d_5]) : List (List ARat)).length (((site_22 ++ [d_5]) : List (List ARat)).map (lcell ARat.cells)).flatten)], .reg [.none, .none, .none, (iI ((((site_22 ++ [d_5]).length : Nat) : Int) - 2)), (.nat k), (.ev (.pv (polyPV v))), .none, (.pv (.tup [(polyPV div), (polyPV div1), (vI div2)]))], .reg [.none, (.pv of.pv), (.pv (.tup [(polyPV sca), (vI sca1)]))], .keep [5, 7], .drop [28], .ren 29 22]) (cj (o_len ARat.cells d_5) (cj (dltN_t h1) (cj (o_appR (sz_l ARat.cells) (site_22 : List (List ARat)) ([d_5] : List (List ARat)) 24 (Eq.refl (site_22 : List (List ARat)).length) (Eq.refl ([d_5] : List (List ARat)).length) h2 rfl) (cj (bs_sub h3) (cj (cj h4 h5) (cj (o_get (enc := (lcell ARat.cells)) (f := fun a => (polyPV a)) (fun _ => rfl) h6) (cj h7 (cj h8 (cj h9 True.intro))))))))) (by kernel_rfl) hL
theorem l11 (d_5 : List ARat) (site_22 : List (List ARat)) (h1 : d_5.length ≤ 0) : Loop1 d_5 site_22 (lpv (lcell ARat.cells) site_22) :=
  L.done mixed tabOk (n := 126) (ns := [1, 1, 3]) (tr := [.auto, .reg [.none, (iI (d_5.length : Int))], .dec false, .reg [], .frzT 2 ((site_22 : List (List ARat)).map (lcell ARat.cells))]) (cj (o_len ARat.cells d_5) (cj (dltN_f h1) (cj (o_frz (sz_l ARat.cells) (site_22 : List (List ARat)) (Eq.refl (site_22 : List (List ARat)).length)) True.intro))) (by kernel_rfl)
end linkworkref06_chain
namespace linkworkref06_changes
@[reducible] noncomputable def fn : Func := Tryz.f223
noncomputable def atK1 : List Itm := focus [0, 2, 0, 2, 0, 0, 2, 0, 0] [.code (bodyOf fn)]
def inv1 (n_5 : Nat) (last_6 : Int) (l : List (List ARat)) (t_12 : Nat) (x : ARat) : St := ⟨[(3, (.ptr 3 0)), (5, (eI (n_5 : Int))), (6, (eI last_6)), (10, (.pv (lpv (lcell ARat.cells) l))), (11, (eI (l.length : Int))), (12, (eI (t_12 : Int)))], [(3, (.lit [(eB x.neg), (.pv (wordsPV x.num)), (.pv (wordsPV x.den))]))]⟩
@[reducible] noncomputable def Loop1 (n_5 : Nat) (last_6 : Int) (l : List (List ARat)) (t_12 : Nat) (x : ARat) (r : PV) : Prop := L prg fn atK1 (inv1 n_5 last_6 l t_12 x) r
theorem e0 (l : List (List ARat)) (x : ARat) {r : PV}  (hL : Loop1 0 0 l 0 x r) : Contract prg 223 [(lpv (lcell ARat.cells) l), x.pv] r :=
  Contract.ofL Tryz.func223 (by kernel_rfl) (L.go mixed tabOk (n := 87) (ns := [1]) (tr := [.reg [], .reg [], .reg [.none, (iI (l.length : Int))], .keep [3, 5, 6, 10, 11, 12]]) (cj (o_len (lcell ARat.cells) l) True.intro) (by kernel_rfl) hL)
theorem l10 (n_5 : Nat) (last_6 : Int) (l : List (List ARat)) (t_12 : Nat) (x : ARat) (v : List ARat) (atV : ARat) (sig : Int) {r : PV} (h1 : t_12 < l.length) (h2 : l[t_12]? = some v) (h3 : Contract prg 164 [(polyPV v), x.pv] atV.pv) (h4 : Contract prg 59 [atV.pv] (vI sig)) (h5 : sig = 0) (h6 : (t_12 + 1) < 9223372036854775808) (hL : Loop1 n_5 last_6 l (t_12 + 1) x r) : Loop1 n_5 last_6 l t_12 x r :=
  L.go mixed tabOk (n := 147) (ns := [1, 3, 1, 1, 1, 1]) (tr := [.auto, .reg [], .dec true, .reg [(.row t_12 ((lcell ARat.cells) v))], .reg [.none, .none, (.pv atV.pv), (.pv (vI sig))], .reg [], .dec true, .reg [(iI (((t_12 + 1) : Nat) : Int))], .keep [3, 5, 6, 10, 11, 12]]) (cj (dltN_t h1) (cj (o_at (lcell ARat.cells) (Eq.refl (((t_12 : Nat) : Int) : Int)) h2) (cj h3 (cj h4 (cj (deq_t h5) (cj (bs_addN h6) True.intro)))))) (by kernel_rfl) hL
theorem l11 (n_5 : Nat) (last_6 : Int) (l : List (List ARat)) (t_12 : Nat) (x : ARat) (v : List ARat) (atV : ARat) (sig : Int) {r : PV} (h1 : t_12 < l.length) (h2 : l[t_12]? = some v) (h3 : Contract prg 164 [(polyPV v), x.pv] atV.pv) (h4 : Contract prg 59 [atV.pv] (vI sig)) (h5 : sig ≠ 0) (h6 : InI64 (-last_6)) (h7 : sig = (-last_6)) (h8 : (n_5 + 1) < 9223372036854775808) (h9 : (t_12 + 1) < 9223372036854775808) (hL : Loop1 (n_5 + 1) sig l (t_12 + 1) x r) : Loop1 n_5 last_6 l t_12 x r :=
  L.go mixed tabOk (n := 162) (ns := [1, 3, 1, 1, 1, 1, 1, 1, 1]) (tr := [.auto, .reg [], .dec true, .reg [(.row t_12 ((lcell ARat.cells) v))], .reg [.none, .none, (.pv atV.pv), (.pv (vI sig))], .reg [], .dec false, .reg [.none, .none, (iI (-last_6))], .dec true, .reg [.none, (iI (((n_5 + 1) : Nat) : Int))], .reg [], .reg [(iI (((t_12 + 1) : Nat) : Int))], .keep [3, 5, 6, 10, 11, 12]]) (cj (dltN_t h1) (cj (o_at (lcell ARat.cells) (Eq.refl (((t_12 : Nat) : Int) : Int)) h2) (cj h3 (cj h4 (cj (deq_f h5) (cj (us_neg h6) (cj (deq_t h7) (cj (bs_addN h8) (cj (bs_addN h9) True.intro))))))))) (by kernel_rfl) hL
theorem l12 (n_5 : Nat) (last_6 : Int) (l : List (List ARat)) (t_12 : Nat) (x : ARat) (v : List ARat) (atV : ARat) (sig : Int) {r : PV} (h1 : t_12 < l.length) (h2 : l[t_12]? = some v) (h3 : Contract prg 164 [(polyPV v), x.pv] atV.pv) (h4 : Contract prg 59 [atV.pv] (vI sig)) (h5 : sig ≠ 0) (h6 : InI64 (-last_6)) (h7 : sig ≠ (-last_6)) (h8 : (t_12 + 1) < 9223372036854775808) (hL : Loop1 n_5 sig l (t_12 + 1) x r) : Loop1 n_5 last_6 l t_12 x r :=
  L.go mixed tabOk (n := 162) (ns := [1, 3, 1, 1, 1, 1, 1, 1]) (tr := [.auto, .reg [], .dec true, .reg [(.row t_12 ((lcell ARat.cells) v))], .reg [.none, .none, (.pv atV.pv), (.pv (vI sig))], .reg [], .dec false, .reg [.none, .none, (iI (-last_6))], .dec false, .reg [], .reg [(iI (((t_12 + 1) : Nat) : Int))], .keep [3, 5, 6, 10, 11, 12]]) (cj (dltN_t h1) (cj (o_at (lcell ARat.cells) (Eq.refl (((t_12 : Nat) : Int) : Int)) h2) (cj h3 (cj h4 (cj (deq_f h5) (cj (us_neg h6) (cj (deq_f h7) (cj (bs_addN h8) True.intro)))))))) (by kernel_rfl) hL
theorem l13 (n_5 : Nat) (last_6 : Int) (l : List (List ARat)) (t_12 : Nat) (x : ARat) (h1 : l.length ≤ t_12) : Loop1 n_5 last_6 l t_12 x (vI (n_5 : Int)) :=
  L.done mixed tabOk (n := 120) (ns := [1]) (tr := [.auto, .reg [], .dec false, .reg []]) (cj (dltN_f h1) True.intro) (by kernel_rfl)
end linkworkref06_changes
namespace sturm_value
theorem e0 (p : List ARat) (x eva : ARat) (eva1 : Option Int) (sig : Int) (h1 : Contract prg 27 [(polyPV p), x.pv] (.tup [eva.pv, (errPV eva1)])) (h2 : Contract prg 39 [eva.pv] (vI sig)) : Contract prg 255 [(polyPV p), x.pv] (vI sig) :=
  Contract.ofL Tryz.func255 (by kernel_rfl) (L.done mixed tabOk (n := 78) (ns := [1, 1]) (tr := [.reg [], .reg [.none, .none, (.pv (.tup [eva.pv, (errPV eva1)]))], .reg [.none, (.pv (vI sig))]]) (cj h1 (cj h2 True.intro)) (by kernel_rfl))
end sturm_value
end Go.Proofs.YtbgkjomonebfcaaGreat.Sym.Path
namespace Go.Proofs.YtbgkjomonebfcaaGreat.Sym
open Go Path CInt
set_option linter.unusedVariables false
def fB (h L : Nat) : Nat := L * (h + (L + 1) * (xB h (h + 1) (L + 1) + 1) + xB h (h + 1) (L + 1)) + 1
def sB (h L : Nat) : Nat := xB (fB h L) (fB h L + 1) (L + 1)
structure Fine (h L : Nat) (p : List Rat) : Prop where
  zp : lastZ p = false
  ne : p ≠ []
  len : p.length ≤ L
  ch : Ch h p
  h1 : 1 ≤ h
  hL : L ≤ 10
  sz : sB h L ≤ 1073741824
theorem xB_pos {a b : Nat} (ha : 1 ≤ a) (hab : a ≤ b) (j : Nat) : 1 ≤ xB a b j := Nat.le_trans ha (xB_le a b hab (i := 0) (Nat.zero_le _))
section
variable {h L : Nat} {p : List Rat}
theorem Fine.pos (f : Fine h L p) : 1 ≤ L := by have := List.length_pos_iff.2 f.ne; have := f.len; omega
theorem Fine.chk (f : Fine h L p) : Sym.chk (p.map mkR) = 0 := chk_map f.zp (by have := f.len; have := f.hL; omega)
theorem Fine.fb (f : Fine h L p) : xB h (h + 1) (L + 1) ≤ fB h L ∧ h + (L + 1) * (xB h (h + 1) (L + 1) + 1) + xB h (h + 1) (L + 1) ≤ fB h L ∧ 1 ≤ fB h L ∧ fB h L ≤ 1073741824 ∧ h ≤ fB h L := by
  have hL := f.pos
  have h1 : 1 * (h + (L + 1) * (xB h (h + 1) (L + 1) + 1) + xB h (h + 1) (L + 1)) ≤ L * (h + (L + 1) * (xB h (h + 1) (L + 1) + 1) + xB h (h + 1) (L + 1)) := Nat.mul_le_mul_right _ hL
  have h2 := xB_le (fB h L) (fB h L + 1) (Nat.le_succ _) (i := 0) (j := L + 1) (Nat.zero_le _)
  have h3 := f.sz
  have h4 : xB (fB h L) (fB h L + 1) 0 = fB h L := rfl
  have h5 : sB h L = xB (fB h L) (fB h L + 1) (L + 1) := rfl
  have h6 : fB h L = L * (h + (L + 1) * (xB h (h + 1) (L + 1) + 1) + xB h (h + 1) (L + 1)) + 1 := rfl
  refine ⟨?_, ?_, ?_, ?_, ?_⟩ <;> omega
theorem Fine.euc (f : Fine h L p) : Euc h (h + 1) L 0 1 p (deriveL p) := ⟨f.ch, f.ch.derive (by have := f.len; have := f.hL; omega), by omega, deriveL_lt2 f.ne, by have := f.len; omega, f.zp, lastZ_deriveL p⟩
theorem Fine.x2 (f : Fine h L p) : 4 * xB h (h + 1) (L + 2) + 10 ≤ 68719476736 := by
  obtain ⟨h1, h2, h3, h4, h5⟩ := f.fb
  have e : xB h (h + 1) (L + 2) = xB h (h + 1) L + 2 * (xB h (h + 1) (L + 1) + 1) := rfl
  have := xB_mono h (h + 1) (Nat.le_succ _) L
  omega
theorem Fine.gcd_ch (f : Fine h L p) : Ch (xB h (h + 1) (L + 1)) (gcdL p (deriveL p)) := by
  have := gcdF_Ch f.h1 (Nat.le_succ h) ((deriveL p).length + 1) 0 1 p (deriveL p) f.euc
  exact this.monic (xB_pos f.h1 (Nat.le_succ h) _) (gcdF_trim _ _ _ f.zp (lastZ_deriveL p))
theorem Fine.gcd_ne (f : Fine h L p) : gcdL p (deriveL p) ≠ [] := gcdL_ne _ f.zp (lastZ_deriveL p) f.ne
theorem Fine.div_ok (f : Fine h L p) : 2 * (h + (p.length + 1 - (gcdL p (deriveL p)).length) * (xB h (h + 1) (L + 1) + 1)) + 3 * xB h (h + 1) (L + 1) + 5 ≤ 68719476736 := by
  obtain ⟨h1, h2, h3, h4, h5⟩ := f.fb
  have hl := f.len
  have : (p.length + 1 - (gcdL p (deriveL p)).length) * (xB h (h + 1) (L + 1) + 1) ≤ (L + 1) * (xB h (h + 1) (L + 1) + 1) := Nat.mul_le_mul_right _ (by omega)
  omega
theorem Fine.gcd_len (f : Fine h L p) : (gcdL p (deriveL p)).length ≤ p.length := ((gcdL_dv p (deriveL p) f.zp (lastZ_deriveL p)).1.len (gcdL_trim _ _) f.zp f.ne).2
theorem Fine.quot_len (f : Fine h L p) : (divL p (gcdL p (deriveL p))).1.length ≤ p.length := by
  have := divL_len (p := p) (gcdL_trim p (deriveL p)) f.gcd_ne
  have := List.length_pos_iff.2 f.gcd_ne
  omega
theorem Fine.quot_ch (f : Fine h L p) : Ch (fB h L) (divL p (gcdL p (deriveL p))).1 := by
  have hq := ht_quot f.ch f.gcd_ch f.h1 (xB_pos f.h1 (Nat.le_succ h) _) (gcdL_trim _ _) f.gcd_ne
  have hl := f.len
  have h1 : (p.length + 1 - (gcdL p (deriveL p)).length) * (xB h (h + 1) (L + 1) + 1) ≤ (L + 1) * (xB h (h + 1) (L + 1) + 1) := Nat.mul_le_mul_right _ (by omega)
  have h2 := Ch.of_fl (fl_mono hq (show _ ≤ h + (L + 1) * (xB h (h + 1) (L + 1) + 1) + xB h (h + 1) (L + 1) by omega))
  refine h2.mono ?_
  have h3 : (divL p (gcdL p (deriveL p))).1.length * (h + (L + 1) * (xB h (h + 1) (L + 1) + 1) + xB h (h + 1) (L + 1)) ≤ L * (h + (L + 1) * (xB h (h + 1) (L + 1) + 1) + xB h (h + 1) (L + 1)) := Nat.mul_le_mul_right _ (by have := f.quot_len; omega)
  unfold fB
  omega
theorem Fine.free_ch (f : Fine h L p) : Ch (fB h L) (freeL p) := f.quot_ch.monic f.fb.2.2.1 (divL_trim _ _).1
theorem Fine.free_len (f : Fine h L p) : (freeL p).length ≤ p.length := by
  unfold freeL
  rw [monicL_len (divL_trim _ _).1]; exact f.quot_len
theorem Fine.free_euc (f : Fine h L p) : Euc (fB h L) (fB h L + 1) L 0 1 (freeL p) (deriveL (freeL p)) := by
  obtain ⟨f1, f2, _⟩ := free_spec f.zp f.ne
  have := f.free_len
  have := f.len
  have := f.hL
  exact ⟨f.free_ch, f.free_ch.derive (by omega), by omega, deriveL_lt2 f2, by omega, f1, lastZ_deriveL _⟩
theorem chain_ch {a b N : Nat} (ha : 1 ≤ a) (hab : a ≤ b) : ∀ (n i j : Nat) (p d : List Rat), Euc a b N i j p d → ∀ g ∈ chainF n p d, Ch (xB a b (N + 1)) g ∧ g.length ≤ p.length
  | 0, i, j, p, d, e, g, hg => by
    rw [chainF, List.mem_singleton] at hg
    rw [hg]
    exact ⟨e.hp.mono (xB_le a b hab (by have := e.idx; have := e.lt; omega)), Nat.le_refl _⟩
  | n + 1, i, j, p, d, e, g, hg => by
    have hp : Ch (xB a b (N + 1)) p := e.hp.mono (xB_le a b hab (by have := e.idx; have := e.lt; omega))
    by_cases h : d = []
    · rw [h, chainF_nil, List.mem_singleton] at hg
      rw [hg]; exact ⟨hp, Nat.le_refl _⟩
    · rw [chainF_cons h] at hg
      rcases List.mem_cons.1 hg with hg | hg
      · rw [hg]; exact ⟨hp, Nat.le_refl _⟩
      · obtain ⟨r1, r2⟩ := e.rest hab h
        have hc : Ch (xB a b (j + (p.length - d.length))) (trimL (smulL (-1) (restL p d))) := by
          refine Ch.trim ?_
          obtain ⟨D, d1, d2, d3⟩ := r1
          refine ⟨D, d1, d2, fun i => ?_⟩
          obtain ⟨m, m1, m2⟩ := d3 i
          refine ⟨-m, ?_, by rw [wl_neg]; exact m2⟩
          rw [coef_smulL, Rat.intCast_neg, ← m1]; grind
        have := chain_ch ha hab n _ _ d _ (e.next hab h hc (rest_neg_len e.zq h) (lastZ_trimL _)) g hg
        exact ⟨this.1, by have := e.len; omega⟩
theorem Fine.chain (f : Fine h L p) : ∀ g ∈ chainL p, Fl 1073741824 g ∧ g.length ≤ 10 := by
  intro g hg
  have hf := f.fb
  obtain ⟨h1, h2⟩ := chain_ch hf.2.2.1 (Nat.le_succ _) (freeL p).length 0 1 _ _ f.free_euc g hg
  have h3 := f.sz
  have h4 := f.free_len
  have h5 := f.len
  have h6 := f.hL
  exact ⟨fl_mono (h1.fl (xB_pos hf.2.2.1 (Nat.le_succ _) _)) h3, by omega⟩
theorem Fine.chain_count (f : Fine h L p) : (chainL p).length ≤ 11 := by
  have h1 := chainF_len (freeL p).length (freeL p) (deriveL (freeL p))
  have h2 := f.free_len
  have h3 := f.len
  have h4 := f.hL
  have h5 : (chainL p).length ≤ (freeL p).length + 1 := h1
  omega
end
theorem varS_nonneg : ∀ (l : Int) (r : List Int), 0 ≤ varS l r ∧ varS l r ≤ r.length
  | _, [] => ⟨Int.le_refl _, Int.le_refl _⟩
  | l, s :: r => by
    rw [varS]
    obtain ⟨a, b⟩ := varS_nonneg l r
    obtain ⟨c, d⟩ := varS_nonneg s r
    rw [List.length_cons]
    split
    · omega
    · split <;> omega
theorem chg_range (G : List (List Rat)) (x : Rat) : 0 ≤ chg G x ∧ chg G x ≤ G.length := by
  have := varS_nonneg 0 (G.map (fun g => sg (evalL g x)))
  rw [List.length_map] at this
  exact this
abbrev pqs (G : List (List Rat)) : PV := lpv (lcell ARat.cells) (G.map (fun g => g.map mkR))
theorem CPl.Free {h L : Nat} {p : List Rat} (f : Fine h L p) : Contract prg 253 [pq p] (.tup [pq (freeL p), .nilI]) := by
  have hl := f.len
  have hL := f.hL
  have hf := f.fb
  have hfl := f.ch.fl f.h1
  have hck := CPo.Check (p.map mkR) (fitQ hfl (by omega))
  rw [f.chk] at hck
  have hd := CPo.derive (p.map mkR) (by rw [lenM]; omega) (fit_mapk (fl_mono hfl (by omega)))
  rw [vals_mkR] at hd
  have hp := List.length_pos_iff.2 f.ne
  have hg := CPl.gcd f.h1 (Nat.le_succ h) (by omega) f.x2 p (deriveL p) f.euc (by omega)
  have hdv := CPl.divide p (gcdL p (deriveL p)) (gcdL_trim _ _) f.gcd_ne f.ch f.gcd_ch f.h1 (xB_pos f.h1 (Nat.le_succ h) _) (by omega) (by have := f.gcd_len; omega) f.div_ok
  have hm := CPl.monic (divL p (gcdL p (deriveL p))).1 (divL_trim _ _).1 f.quot_ch hf.2.2.1 (by have := f.quot_len; omega) (by omega)
  exact poly_Free.e1 _ _ _ _ _ _ hck (by rw [lenM]; omega) hd hg hdv hm
theorem CPr.Free {h L : Nat} {p : List Rat} (f : Fine h L p) : Contract prg 256 [pq p] (.tup [pq (freeL p), vI 0]) := by
  have hl := f.len
  have hL := f.hL
  have hf := f.fb
  have hfl := f.ch.fl f.h1
  have hck := CRe.Check (p.map mkR) (fitQ hfl (by omega))
  rw [f.chk] at hck
  have hd := CRe.derive (p.map mkR) (by rw [lenM]; omega) (fit_mapk (fl_mono hfl (by omega)))
  rw [vals_mkR] at hd
  have hp := List.length_pos_iff.2 f.ne
  have hg := CPr.gcd f.h1 (Nat.le_succ h) (by omega) f.x2 p (deriveL p) f.euc (by omega)
  have hdv := CPr.divide p (gcdL p (deriveL p)) (gcdL_trim _ _) f.gcd_ne f.ch f.gcd_ch f.h1 (xB_pos f.h1 (Nat.le_succ h) _) (by omega) (by have := f.gcd_len; omega) f.div_ok
  have hm := CPr.monic (divL p (gcdL p (deriveL p))).1 (divL_trim _ _).1 f.quot_ch hf.2.2.1 (by have := f.quot_len; omega) (by omega)
  exact linkworkref05_Free.e2 _ _ _ _ _ _ _ hck rfl (by rw [lenM]; omega) hd hg hdv hm
theorem chk2_zero {p q : List ARat} (hp : chk p = 0) (hq : chk q = 0) : chk2 p q = 0 := by unfold chk2; rw [if_pos hp]; exact hq
theorem CPl.next {a b N i j : Nat} (ha : 1 ≤ a) (hab : a ≤ b) (hN : N ≤ 60) (hk : 4 * xB a b (N + 2) + 10 ≤ 68719476736) {p d : List Rat} (e : Euc a b N i j p d) (h : d ≠ []) : Contract prg 254 [pq p, pq d] (.tup [pq (divL p d).1, pq (restL p d), .nilI]) ∧ Contract prg 72 [pq (restL p d), (mkR ((-1 : Int) : Rat)).pv] (.tup [pq (trimL (smulL (-1) (restL p d))), .nilI]) := by
  have x1 : ∀ j, 1 ≤ xB a b j := xB_pos ha hab
  have hi := e.idx
  have hij := e.lt
  have hlen := e.len
  have hbd := e.bound
  obtain ⟨r1, r2⟩ := e.rest hab h
  have hx : xB a b (N + 2) = xB a b N + 2 * (xB a b (N + 1) + 1) := rfl
  have b0 := xB_le a b hab (i := i) (j := N + 1) (by omega)
  have b1 := xB_le a b hab (i := j + (p.length - d.length)) (j := N + 1) (by omega)
  have b2 := xB_le a b hab (i := j) (j := N + 1) (by omega)
  have hcp := chk_map e.zp (by omega)
  have hcd := chk_map e.zq (by omega)
  have hzr := restL_trim p d
  have hcr := chk_map hzr (by omega)
  constructor
  · have hck := CPl.checks2 (p.map mkR) (d.map mkR) (fitQ (e.hp.fl (x1 i)) (by omega)) (fitQ (e.hq.fl (x1 j)) (by omega))
    rw [chk2_zero hcp hcd] at hck
    have hd := CPl.divide p d e.zq h e.hp e.hq (x1 i) (x1 j) (by omega) (by omega) (by
      obtain ⟨j', rfl⟩ : ∃ j', j = j' + 1 := ⟨j - 1, by omega⟩
      obtain ⟨d', hd⟩ : ∃ d', p.length - d.length = d' + 1 := ⟨p.length - d.length - 1, by omega⟩
      have h2 := xB_le a b hab (i := i) (j := j') (by omega)
      have h3 := xB_gap a b hab j' d'
      have h4 := xB_le a b hab (i := j' + 1 + (d' + 1)) (j := N + 1) (by omega)
      rw [show p.length + 1 - d.length = d' + 2 from by omega]
      omega)
    have := List.length_pos_iff.2 h
    exact poly_Div.e1 _ _ _ _ hck (by rw [lenM]; omega) hd
  · have hck := CPo.Check ((restL p d).map mkR) (fitQ (r1.fl (x1 _)) (by omega))
    rw [hcr] at hck
    have hp := CPl.plus (a := 1) (d := 1) [] (restL p d) ((-1 : Int) : Rat) (by simp) (by omega) (fun x hx => by cases hx) (r1.fl (x1 _)) (by decide) (by omega) (x1 _) (by omega)
    exact poly_Scale.e0 _ _ _ hck hp
theorem CPr.next {a b N i j : Nat} (ha : 1 ≤ a) (hab : a ≤ b) (hN : N ≤ 60) (hk : 4 * xB a b (N + 2) + 10 ≤ 68719476736) {p d : List Rat} (e : Euc a b N i j p d) (h : d ≠ []) : Contract prg 257 [pq p, pq d] (.tup [pq (divL p d).1, pq (restL p d), vI 0]) ∧ Contract prg 203 [pq (restL p d), (mkR ((-1 : Int) : Rat)).pv] (.tup [pq (trimL (smulL (-1) (restL p d))), vI 0]) := by
  have x1 : ∀ j, 1 ≤ xB a b j := xB_pos ha hab
  have hi := e.idx
  have hij := e.lt
  have hlen := e.len
  have hbd := e.bound
  obtain ⟨r1, r2⟩ := e.rest hab h
  have hx : xB a b (N + 2) = xB a b N + 2 * (xB a b (N + 1) + 1) := rfl
  have b0 := xB_le a b hab (i := i) (j := N + 1) (by omega)
  have b1 := xB_le a b hab (i := j + (p.length - d.length)) (j := N + 1) (by omega)
  have b2 := xB_le a b hab (i := j) (j := N + 1) (by omega)
  have hcp := chk_map e.zp (by omega)
  have hcd := chk_map e.zq (by omega)
  have hzr := restL_trim p d
  have hcr := chk_map hzr (by omega)
  constructor
  · have hck := CPr.both (p.map mkR) (d.map mkR) (fitQ (e.hp.fl (x1 i)) (by omega)) (fitQ (e.hq.fl (x1 j)) (by omega))
    rw [chk2_zero hcp hcd] at hck
    have hd := CPr.divide p d e.zq h e.hp e.hq (x1 i) (x1 j) (by omega) (by omega) (by
      obtain ⟨j', rfl⟩ : ∃ j', j = j' + 1 := ⟨j - 1, by omega⟩
      obtain ⟨d', hd⟩ : ∃ d', p.length - d.length = d' + 1 := ⟨p.length - d.length - 1, by omega⟩
      have h2 := xB_le a b hab (i := i) (j := j') (by omega)
      have h3 := xB_gap a b hab j' d'
      have h4 := xB_le a b hab (i := j' + 1 + (d' + 1)) (j := N + 1) (by omega)
      rw [show p.length + 1 - d.length = d' + 2 from by omega]
      omega)
    have := List.length_pos_iff.2 h
    exact linkworkref05_Div.e2 _ _ _ _ _ hck rfl (by rw [lenM]; omega) hd
  · have hck := CRe.Check ((restL p d).map mkR) (fitQ (r1.fl (x1 _)) (by omega))
    rw [hcr] at hck
    have hp := CPr.plus (a := 1) (d := 1) [] (restL p d) ((-1 : Int) : Rat) 0 (by simp) (by omega) (fun x hx => by cases hx) (r1.fl (x1 _)) (by decide) (by omega) (x1 _) (by omega)
    exact linkworkref05_Scale.e1 _ _ _ _ hck rfl hp
theorem Fine.free_x2 {h L : Nat} {p : List Rat} (f : Fine h L p) : 4 * xB (fB h L) (fB h L + 1) (L + 2) + 10 ≤ 68719476736 := by
  have e : xB (fB h L) (fB h L + 1) (L + 2) = xB (fB h L) (fB h L + 1) L + 2 * (xB (fB h L) (fB h L + 1) (L + 1) + 1) := rfl
  have h1 := xB_mono (fB h L) (fB h L + 1) (Nat.le_succ _) L
  have h2 := f.sz
  have h3 : sB h L = xB (fB h L) (fB h L + 1) (L + 1) := rfl
  omega
namespace CSt
theorem check (p : List ARat) (hp : FitP 274877906944 p) : Contract prg 216 [polyPV p] (errPV (errOf (if chk p = 0 then (if p.length = 0 then 8 else 0) else chk p))) := by
  have hk := CPo.Check p hp
  by_cases h : chk p = 0
  · rw [if_pos h]
    rw [h] at hk
    by_cases h0 : p.length = 0
    · rw [if_pos h0]; exact sturm_check.e0 p hk h0
    · rw [if_neg h0]; exact sturm_check.e1 p hk h0
  · rw [if_neg h]
    rw [errOf_ne h] at hk ⊢
    exact sturm_check.e2 p _ hk
theorem chain {h L : Nat} {p : List Rat} (f : Fine h L p) : Contract prg 217 [pq p] (.tup [pqs (chainL p), .nilI]) := by
  have hL := f.hL
  have hfb := f.fb
  obtain ⟨f1, f2, _⟩ := free_spec f.zp f.ne
  have hfl := f.free_len
  have hl := f.len
  have hff := f.free_ch.fl hfb.2.2.1
  have hd := CPo.Derive ((freeL p).map mkR) (chk_map f1 (by omega)) (fit_mapk (fl_mono hff (by omega)))
  rw [vals_mkR] at hd
  have loop : ∀ (n i j : Nat) (pre : List (List Rat)) (q d : List Rat), d.length < n → pre.length + n ≤ 20 → Euc (fB h L) (fB h L + 1) L i j q d → sturm_chain.Loop1 (d.map mkR) ((pre ++ [q]).map (fun g => g.map mkR)) (.tup [pqs (pre ++ chainF n q d), .nilI]) := by
    intro n
    induction n with
    | zero => intro i j pre q d hn; omega
    | succ n ih =>
      intro i j pre q d hn hpl e
      by_cases h0 : d = []
      · subst h0
        rw [chainF_nil]
        exact sturm_chain.l13 _ _ (by simp)
      · rw [chainF_cons h0]
        obtain ⟨c1, c2⟩ := CPl.next hfb.2.2.1 (Nat.le_succ _) (by omega) f.free_x2 e h0
        obtain ⟨r1, r2⟩ := e.rest (Nat.le_succ _) h0
        have hc : Ch (xB (fB h L) (fB h L + 1) (j + (q.length - d.length))) (trimL (smulL (-1) (restL q d))) := by
          refine Ch.trim ?_
          obtain ⟨D, d1, d2, d3⟩ := r1
          refine ⟨D, d1, d2, fun i => ?_⟩
          obtain ⟨m, m1, m2⟩ := d3 i
          refine ⟨-m, ?_, by rw [wl_neg]; exact m2⟩
          rw [coef_smulL, Rat.intCast_neg, ← m1]; grind
        have next := ih _ _ (pre ++ [q]) d _ (by have := rest_neg_len (p := q) e.zq h0; omega) (by rw [List.length_append, List.length_singleton]; omega) (e.next (Nat.le_succ _) h0 hc (rest_neg_len e.zq h0) (lastZ_trimL _))
        have es : (pre ++ [q]).map (fun g => g.map mkR) ++ [d.map mkR] = (pre ++ [q] ++ [d]).map (fun g => g.map mkR) := by rw [List.map_append (l₁ := pre ++ [q])]; rfl
        have hlen : ((pre ++ [q] ++ [d]).map (fun g => g.map mkR)).length = pre.length + 2 := by simp
        have hone := CFr.Of (-1) (by unfold InI64; omega)
        have := List.length_pos_iff.2 h0
        refine sturm_chain.l10 _ _ pre.length (q.map mkR) _ _ _ _ (by rw [lenM]; omega) (by rw [es, hlen]; omega) (by rw [es, hlen]; unfold InI64; omega) (by rw [es, hlen]; omega) (by rw [es, hlen]; omega) (by rw [es]; simp) c1 hone c2 ?_
        rw [es]
        have e2 : pre ++ [q] ++ chainF n d (trimL (smulL (-1) (restL q d))) = pre ++ q :: chainF n d (trimL (smulL (-1) (restL q d))) := by simp
        rwa [e2] at next
  have := loop (freeL p).length 0 1 [] (freeL p) (deriveL (freeL p)) (deriveL_lt2 f2) (by simp; omega) f.free_euc
  exact sturm_chain.e0 _ _ _ (CPl.Free f) hd this
theorem changes (G : List (List Rat)) (x : Rat) (hG : ∀ g ∈ G, lastZ g = false ∧ Fl 1073741824 g ∧ g.length ≤ 10) (hl : G.length ≤ 1000) (hx : ht x ≤ 1073741824) : Contract prg 218 [pqs G, (mkR x).pv] (vI (chg G x)) := by
  have loop : ∀ (j t n : Nat) (l : Int), G.length - t = j → t ≤ G.length → n ≤ t → -1 ≤ l → l ≤ 1 → sturm_changes.Loop1 n l (G.map (fun g => g.map mkR)) t (mkR x) (vI ((n : Int) + varS l ((G.drop t).map (fun g => sg (evalL g x))))) := by
    intro j
    induction j with
    | zero =>
      intro t n l hj ht hn _ _
      rw [List.drop_of_length_le (by omega), List.map_nil, varS, Int.add_zero]
      exact sturm_changes.l13 n l _ t _ (by rw [List.length_map]; omega)
    | succ j ih =>
      intro t n l hj htt hn hl1 hl2
      obtain ⟨g, hg⟩ : ∃ g, G[t]? = some g := ⟨_, List.getElem?_eq_getElem (by omega)⟩
      obtain ⟨z, fl, ln⟩ := hG g (List.mem_of_getElem? hg)
      have hm : (G.map (fun g => g.map mkR))[t]? = some (g.map mkR) := by rw [List.getElem?_map, hg]; rfl
      have hev := CPo.Eval (g.map mkR) (mkR x) (chk_map z (by omega)) (fit_mapk fl) (fit_mkRk hx)
      rw [vals_mkR, mkR_val] at hev
      have h3 := ht_eval g x 1073741824 fl hx
      have h4 : g.length * (2 * 1073741824 + 1) ≤ 10 * (2 * 1073741824 + 1) := Nat.mul_le_mul_right _ ln
      have hs := QF.Sign (evalL g x) (by omega)
      have hv := sturm_value.e0 _ _ _ none _ hev hs
      have hsg : cmpR (evalL g x) 0 = sg (evalL g x) := rfl
      have h3s := sg_three (evalL g x)
      rw [hsg] at hv
      have hlt : t < (G.map (fun g => g.map mkR)).length := by rw [List.length_map]; omega
      rw [drop_cons hg, List.map_cons, varS]
      generalize sg (evalL g x) = s at hv h3s
      by_cases h0 : s = 0
      · rw [if_pos h0]
        exact sturm_changes.l12 n l _ t _ _ _ hlt hm hv h0 (by omega) (ih (t + 1) n l (by omega) (by omega) (by omega) hl1 hl2)
      · rw [if_neg h0]
        by_cases h1 : s = -l
        · rw [if_pos h1]
          have := ih (t + 1) (n + 1) s (by omega) (by omega) (by omega) (by omega) (by omega)
          rw [show (((n + 1 : Nat) : Int)) + varS s ((G.drop (t + 1)).map (fun g => sg (evalL g x))) = (n : Int) + (1 + varS s ((G.drop (t + 1)).map (fun g => sg (evalL g x)))) from by omega] at this
          exact sturm_changes.l10 n l _ t _ _ _ hlt hm hv h0 (by unfold InI64; omega) h1 (by omega) (by omega) this
        · rw [if_neg h1, Int.zero_add]
          exact sturm_changes.l11 n l _ t _ _ _ hlt hm hv h0 (by unfold InI64; omega) h1 (by omega) (ih (t + 1) n s (by omega) (by omega) (by omega) (by omega) (by omega))
  have := loop _ 0 0 0 rfl (by omega) (by omega) (by omega) (by omega)
  rw [List.drop_zero, show (((0 : Nat) : Int)) = 0 from rfl, Int.zero_add] at this
  exact sturm_changes.e0 _ _ this
theorem chain_all {h L : Nat} {p : List Rat} (f : Fine h L p) : ∀ g ∈ chainL p, lastZ g = false ∧ Fl 1073741824 g ∧ g.length ≤ 10 := by
  intro g hg
  refine ⟨?_, f.chain g hg⟩
  have key : ∀ (n : Nat) (p d : List Rat), lastZ p = false → lastZ d = false → ∀ g ∈ chainF n p d, lastZ g = false := by
    intro n
    induction n with
    | zero => intro p d hp _ g hg; rw [chainF, List.mem_singleton] at hg; rw [hg]; exact hp
    | succ n ih =>
      intro p d hp hd g hg
      by_cases h : d = []
      · rw [h, chainF_nil, List.mem_singleton] at hg; rw [hg]; exact hp
      · rw [chainF_cons h] at hg
        rcases List.mem_cons.1 hg with hg | hg
        · rw [hg]; exact hp
        · exact ih d _ hd (lastZ_trimL _) g hg
  exact key _ _ _ (free_spec f.zp f.ne).1 (lastZ_deriveL _) g hg
theorem Count {h L : Nat} {p : List Rat} (f : Fine h L p) (lo hi : Rat) (hlh : lo ≤ hi) (h1 : ht lo ≤ 1073741824) (h2 : ht hi ≤ 1073741824) : Contract prg 159 [pq p, (mkR lo).pv, (mkR hi).pv] (.tup [vI (chg (chainL p) lo - chg (chainL p) hi), .nilI]) := by
  have hc := f.chain_count
  have hck := check (p.map mkR) (fitQ (f.ch.fl f.h1) (by have := f.fb; omega))
  have hp := List.length_pos_iff.2 f.ne
  rw [f.chk, if_pos rfl, if_neg (by rw [lenM]; omega)] at hck
  obtain ⟨a1, a2⟩ := chg_range (chainL p) lo
  obtain ⟨b1, b2⟩ := chg_range (chainL p) hi
  exact sturm_Count.e3 _ _ _ _ _ _ _ _ _ hck (QF.Valid lo (by omega)) rfl (QF.Valid hi (by omega)) rfl (QF.Cmp lo hi (by omega) (by omega)) (cmpR_le.2 hlh) (chain f) (changes _ lo (chain_all f) (by omega) h1) (changes _ hi (chain_all f) (by omega) h2) (by unfold InI64; omega)
end CSt
namespace CSr
theorem Error (p : List ARat) (hp : FitP 274877906944 p) : Contract prg 220 [polyPV p] (vI (if chk p = 0 then (if p.length = 0 then 8 else 0) else chk p)) := by
  have hk := CRe.Check p hp
  by_cases h : chk p = 0
  · rw [if_pos h]
    by_cases h0 : p.length = 0
    · rw [if_pos h0]; exact linkworkref06_Error.e1 p _ hk h h0
    · rw [if_neg h0]; exact linkworkref06_Error.e2 p _ hk h h0
  · rw [if_neg h]; exact linkworkref06_Error.e0 p _ hk h
theorem chain {h L : Nat} {p : List Rat} (f : Fine h L p) : Contract prg 222 [pq p] (pqs (chainL p)) := by
  have hL := f.hL
  have hfb := f.fb
  obtain ⟨f1, f2, _⟩ := free_spec f.zp f.ne
  have hfl := f.free_len
  have hl := f.len
  have hff := f.free_ch.fl hfb.2.2.1
  have hd := CRe.Derive ((freeL p).map mkR) (chk_map f1 (by omega)) (fit_mapk (fl_mono hff (by omega)))
  rw [vals_mkR] at hd
  have loop : ∀ (n i j : Nat) (pre : List (List Rat)) (q d : List Rat), d.length < n → pre.length + n ≤ 20 → Euc (fB h L) (fB h L + 1) L i j q d → linkworkref06_chain.Loop1 (d.map mkR) ((pre ++ [q]).map (fun g => g.map mkR)) (pqs (pre ++ chainF n q d)) := by
    intro n
    induction n with
    | zero => intro i j pre q d hn; omega
    | succ n ih =>
      intro i j pre q d hn hpl e
      by_cases h0 : d = []
      · subst h0
        rw [chainF_nil]
        exact linkworkref06_chain.l11 _ _ (by simp)
      · rw [chainF_cons h0]
        obtain ⟨c1, c2⟩ := CPr.next hfb.2.2.1 (Nat.le_succ _) (by omega) f.free_x2 e h0
        obtain ⟨r1, r2⟩ := e.rest (Nat.le_succ _) h0
        have hc : Ch (xB (fB h L) (fB h L + 1) (j + (q.length - d.length))) (trimL (smulL (-1) (restL q d))) := by
          refine Ch.trim ?_
          obtain ⟨D, d1, d2, d3⟩ := r1
          refine ⟨D, d1, d2, fun i => ?_⟩
          obtain ⟨m, m1, m2⟩ := d3 i
          refine ⟨-m, ?_, by rw [wl_neg]; exact m2⟩
          rw [coef_smulL, Rat.intCast_neg, ← m1]; grind
        have next := ih _ _ (pre ++ [q]) d _ (by have := rest_neg_len (p := q) e.zq h0; omega) (by rw [List.length_append, List.length_singleton]; omega) (e.next (Nat.le_succ _) h0 hc (rest_neg_len e.zq h0) (lastZ_trimL _))
        have es : (pre ++ [q]).map (fun g => g.map mkR) ++ [d.map mkR] = (pre ++ [q] ++ [d]).map (fun g => g.map mkR) := by rw [List.map_append (l₁ := pre ++ [q])]; rfl
        have hlen : ((pre ++ [q] ++ [d]).map (fun g => g.map mkR)).length = pre.length + 2 := by simp
        have hone := CRb.Of (-1) (by unfold InI64; omega)
        have := List.length_pos_iff.2 h0
        refine linkworkref06_chain.l10 _ _ pre.length (q.map mkR) _ _ _ _ _ _ (by rw [lenM]; omega) (by rw [es, hlen]; omega) (by rw [es, hlen]; unfold InI64; omega) (by rw [es, hlen]; omega) (by rw [es, hlen]; omega) (by rw [es]; simp) c1 hone c2 ?_
        rw [es]
        have e2 : pre ++ [q] ++ chainF n d (trimL (smulL (-1) (restL q d))) = pre ++ q :: chainF n d (trimL (smulL (-1) (restL q d))) := by simp
        rwa [e2] at next
  have := loop (freeL p).length 0 1 [] (freeL p) (deriveL (freeL p)) (deriveL_lt2 f2) (by simp; omega) f.free_euc
  exact linkworkref06_chain.e0 _ _ _ _ _ (CPr.Free f) hd this
theorem changes (G : List (List Rat)) (x : Rat) (hG : ∀ g ∈ G, lastZ g = false ∧ Fl 1073741824 g ∧ g.length ≤ 10) (hl : G.length ≤ 1000) (hx : ht x ≤ 1073741824) : Contract prg 223 [pqs G, (mkR x).pv] (vI (chg G x)) := by
  have loop : ∀ (j t n : Nat) (l : Int), G.length - t = j → t ≤ G.length → n ≤ t → -1 ≤ l → l ≤ 1 → linkworkref06_changes.Loop1 n l (G.map (fun g => g.map mkR)) t (mkR x) (vI ((n : Int) + varS l ((G.drop t).map (fun g => sg (evalL g x))))) := by
    intro j
    induction j with
    | zero =>
      intro t n l hj ht hn _ _
      rw [List.drop_of_length_le (by omega), List.map_nil, varS, Int.add_zero]
      exact linkworkref06_changes.l13 n l _ t _ (by rw [List.length_map]; omega)
    | succ j ih =>
      intro t n l hj htt hn hl1 hl2
      obtain ⟨g, hg⟩ : ∃ g, G[t]? = some g := ⟨_, List.getElem?_eq_getElem (by omega)⟩
      obtain ⟨z, fl, ln⟩ := hG g (List.mem_of_getElem? hg)
      have hm : (G.map (fun g => g.map mkR))[t]? = some (g.map mkR) := by rw [List.getElem?_map, hg]; rfl
      have hev := CRe.At (g.map mkR) (mkR x) (by rw [lenM]; omega) (fit_mapk fl) (fit_mkRk hx)
      rw [vals_mkR, mkR_val] at hev
      have h3 := ht_eval g x 1073741824 fl hx
      have h4 : g.length * (2 * 1073741824 + 1) ≤ 10 * (2 * 1073741824 + 1) := Nat.mul_le_mul_right _ ln
      have hv := QR.Sign (evalL g x) (by omega)
      have hsg : cmpR (evalL g x) 0 = sg (evalL g x) := rfl
      have h3s := sg_three (evalL g x)
      rw [hsg] at hv
      have hlt : t < (G.map (fun g => g.map mkR)).length := by rw [List.length_map]; omega
      rw [drop_cons hg, List.map_cons, varS]
      generalize sg (evalL g x) = s at hv h3s
      by_cases h0 : s = 0
      · rw [if_pos h0]
        exact linkworkref06_changes.l10 n l _ t _ _ _ _ hlt hm hev hv h0 (by omega) (ih (t + 1) n l (by omega) (by omega) (by omega) hl1 hl2)
      · rw [if_neg h0]
        by_cases h1 : s = -l
        · rw [if_pos h1]
          have := ih (t + 1) (n + 1) s (by omega) (by omega) (by omega) (by omega) (by omega)
          rw [show (((n + 1 : Nat) : Int)) + varS s ((G.drop (t + 1)).map (fun g => sg (evalL g x))) = (n : Int) + (1 + varS s ((G.drop (t + 1)).map (fun g => sg (evalL g x)))) from by omega] at this
          exact linkworkref06_changes.l11 n l _ t _ _ _ _ hlt hm hev hv h0 (by unfold InI64; omega) h1 (by omega) (by omega) this
        · rw [if_neg h1, Int.zero_add]
          exact linkworkref06_changes.l12 n l _ t _ _ _ _ hlt hm hev hv h0 (by unfold InI64; omega) h1 (by omega) (ih (t + 1) n s (by omega) (by omega) (by omega) (by omega) (by omega))
  have := loop _ 0 0 0 rfl (by omega) (by omega) (by omega) (by omega)
  rw [List.drop_zero, show (((0 : Nat) : Int)) = 0 from rfl, Int.zero_add] at this
  exact linkworkref06_changes.e0 _ _ this
theorem count {h L : Nat} {p : List Rat} (f : Fine h L p) (lo hi : Rat) (h1 : ht lo ≤ 1073741824) (h2 : ht hi ≤ 1073741824) : Contract prg 167 [pq p, (mkR lo).pv, (mkR hi).pv] (vI (chg (chainL p) lo - chg (chainL p) hi)) := by
  have hc := f.chain_count
  obtain ⟨a1, a2⟩ := chg_range (chainL p) lo
  obtain ⟨b1, b2⟩ := chg_range (chainL p) hi
  exact linkworkref06_count.e0 _ _ _ _ _ _ (chain f) (changes _ lo (CSt.chain_all f) (by omega) h1) (changes _ hi (CSt.chain_all f) (by omega) h2) (by unfold InI64; omega)
theorem Count {h L : Nat} {p : List Rat} (f : Fine h L p) (lo hi : Rat) (hlh : lo ≤ hi) (h1 : ht lo ≤ 1073741824) (h2 : ht hi ≤ 1073741824) : Contract prg 165 [pq p, (mkR lo).pv, (mkR hi).pv] (.tup [vI (chg (chainL p) lo - chg (chainL p) hi), vI 0]) := by
  have hck := Error (p.map mkR) (fitQ (f.ch.fl f.h1) (by have := f.fb; omega))
  have hp := List.length_pos_iff.2 f.ne
  rw [f.chk, if_pos rfl, if_neg (by rw [lenM]; omega)] at hck
  exact linkworkref06_Count.e4 _ _ _ _ _ _ _ _ hck rfl (QR.Valid lo (by omega)) rfl (QR.Valid hi (by omega)) rfl (QR.Cmp lo hi (by omega) (by omega)) (cmpR_le.2 hlh) (count f lo hi h1 h2)
end CSr
end Go.Proofs.YtbgkjomonebfcaaGreat.Sym
namespace Go.Proofs.YtbgkjomonebfcaaGreat.Sym.Path
open Go
set_option maxRecDepth 20000
set_option linter.unusedVariables false
namespace linkworkref52_Check
@[reducible] noncomputable def fn : Func := Tryz.f68
noncomputable def atK1 : List Itm := focus [0, 2, 0, 0, 2, 1, 2, 0, 0, 2, 1, 2, 0, 0, 2, 0, 0] [.code (bodyOf fn)]
def inv1 (i_3 : Nat) (l : ALaw) : St := ⟨[(1, (.ptr 1 0)), (3, (eI (i_3 : Int)))], [(1, (.lit [(.pv (polyPV l.breaks)), (.pv (lpv (lcell ARat.cells) l.pieces))]))]⟩
@[reducible] noncomputable def Loop1 (i_3 : Nat) (l : ALaw) (r : PV) : Prop := L prg fn atK1 (inv1 i_3 l) r
noncomputable def atK2 : List Itm := focus [0, 2, 0, 0, 2, 1, 2, 0, 0, 2, 1, 2, 0, 0, 2, 0, 0, 0, 0, 0, 2, 1, 2, 2, 2, 2, 0, 0, 2, 0, 0] [.code (bodyOf fn)]
def inv2 (i_5 : Nat) (l : ALaw) : St := ⟨[(1, (.ptr 1 0)), (5, (eI (i_5 : Int)))], [(1, (.lit [(.pv (polyPV l.breaks)), (.pv (lpv (lcell ARat.cells) l.pieces))]))]⟩
@[reducible] noncomputable def Loop2 (i_5 : Nat) (l : ALaw) (r : PV) : Prop := L prg fn atK2 (inv2 i_5 l) r
theorem e0 (l : ALaw) (h1 : l.breaks.length = 0) : Contract prg 68 [l.pv] (vI 10) :=
  Contract.ofL Tryz.func68 (by kernel_rfl) (L.done mixed tabOk (n := 84) (ns := [1, 1, 1, 1, 1, 1, 1, 1, 1]) (tr := [.reg [], .reg [.none, .none, (iI (l.breaks.length : Int)), .none, .none, .skip, .skip, .skip, .skip, .skip, .skip, .skip, (.dec true)], .auto, .reg []]) (cj (o_len ARat.cells l.breaks) (cj (deqN_t h1) (cj (deqN_t h1) (cj (deqN_t h1) (cj (deqN_t h1) (cj (deqN_t h1) (cj (deqN_t h1) (cj (deqN_t h1) (cj (deqN_t h1) True.intro))))))))) (by kernel_rfl))
theorem e1 (l : ALaw) (h1 : l.breaks.length ≠ 0) (h2 : l.breaks.length ≠ l.pieces.length) : Contract prg 68 [l.pv] (vI 10) :=
  Contract.ofL Tryz.func68 (by kernel_rfl) (L.done mixed tabOk (n := 84) (ns := [1, 1, 1, 1, 1, 1, 1, 1, 1, 1, 1, 1]) (tr := [.reg [], .reg [.none, .none, (iI (l.breaks.length : Int)), .none, .none, .none, .none, (iI (l.breaks.length : Int)), .none, .none, (iI (l.pieces.length : Int)), .none, (.dec false)], .dec true, .reg []]) (cj (o_len ARat.cells l.breaks) (cj (deqN_f h1) (cj (deqN_f h1) (cj (deqN_f h1) (cj (o_len ARat.cells l.breaks) (cj (deqN_f h1) (cj (deqN_f h1) (cj (deqN_f h1) (cj (o_len (lcell ARat.cells) l.pieces) (cj (deqN_f h1) (cj (deqN_f h1) (cj (dneN_t h2) True.intro)))))))))))) (by kernel_rfl))
theorem e2 (l : ALaw) (h1 : l.breaks.length ≠ 0) (h2 : l.breaks.length = l.pieces.length) (h3 : 16 < l.breaks.length) : Contract prg 68 [l.pv] (vI 4) :=
  Contract.ofL Tryz.func68 (by kernel_rfl) (L.done mixed tabOk (n := 99) (ns := [1, 1, 1, 1, 1, 1, 1, 1, 1, 1, 1, 1, 1, 1]) (tr := [.reg [], .reg [.none, .none, (iI (l.breaks.length : Int)), .none, .none, .none, .none, (iI (l.breaks.length : Int)), .none, .none, (iI (l.pieces.length : Int)), .none, (.dec false)], .dec false, .reg [.none, .none, (iI (l.breaks.length : Int))], .dec true, .reg []]) (cj (o_len ARat.cells l.breaks) (cj (deqN_f h1) (cj (deqN_f h1) (cj (deqN_f h1) (cj (o_len ARat.cells l.breaks) (cj (deqN_f h1) (cj (deqN_f h1) (cj (deqN_f h1) (cj (o_len (lcell ARat.cells) l.pieces) (cj (deqN_f h1) (cj (deqN_f h1) (cj (dneN_f h2) (cj (o_len ARat.cells l.breaks) (cj (dltN_t h3) True.intro)))))))))))))) (by kernel_rfl))
theorem e3 (l : ALaw) {r : PV} (h1 : l.breaks.length ≠ 0) (h2 : l.breaks.length = l.pieces.length) (h3 : l.breaks.length ≤ 16) (hL : Loop1 0 l r) : Contract prg 68 [l.pv] r :=
  Contract.ofL Tryz.func68 (by kernel_rfl) (L.go mixed tabOk (n := 111) (ns := [1, 1, 1, 1, 1, 1, 1, 1, 1, 1, 1, 1, 1, 1]) (tr := [.reg [], .reg [.none, .none, (iI (l.breaks.length : Int)), .none, .none, .none, .none, (iI (l.breaks.length : Int)), .none, .none, (iI (l.pieces.length : Int)), .none, (.dec false)], .dec false, .reg [.none, .none, (iI (l.breaks.length : Int))], .dec false, .reg [], .keep [1, 3]]) (cj (o_len ARat.cells l.breaks) (cj (deqN_f h1) (cj (deqN_f h1) (cj (deqN_f h1) (cj (o_len ARat.cells l.breaks) (cj (deqN_f h1) (cj (deqN_f h1) (cj (deqN_f h1) (cj (o_len (lcell ARat.cells) l.pieces) (cj (deqN_f h1) (cj (deqN_f h1) (cj (dneN_f h2) (cj (o_len ARat.cells l.breaks) (cj (dltN_f h3) True.intro)))))))))))))) (by kernel_rfl) hL)
theorem l10 (i_3 : Nat) (l : ALaw) (v : ARat) (val : Bool) (h1 : i_3 < l.breaks.length) (h2 : l.breaks[i_3]? = some v) (h3 : Contract prg 48 [v.pv] (vB val)) (h4 : val = false) : Loop1 i_3 l (vI 3) :=
  L.done mixed tabOk (n := 159) (ns := [1, 1, 3, 1, 1, 1, 1, 1, 1, 1, 1, 1]) (tr := [.auto, .reg [.none, .none, .none, (iI (l.breaks.length : Int))], .dec true, .reg [.none, .none, .none, (.row i_3 (ARat.cells v))], dr 14 0 [.none, (.pv (vB val)), .none, .none, .skip, .skip, .skip, (.dec true), .none, .skip, .skip, .skip, .skip], .auto, .reg []]) (cj (o_len ARat.cells l.breaks) (cj (dltN_t h1) (cj (o_at ARat.cells (Eq.refl (((i_3 : Nat) : Int) : Int)) h2) (cj h3 (cj (bnot_t h4) (cj (bnot_t h4) (cj (bnot_t h4) (cj (bnot_t h4) (cj (Eq.refl true) (cj (Eq.refl true) (cj (Eq.refl true) (cj (Eq.refl true) True.intro)))))))))))) (by kernel_rfl)
theorem l11 (i_3 : Nat) (l : ALaw) (v : ARat) (val : Bool) (sig : Int) (h1 : i_3 < l.breaks.length) (h2 : l.breaks[i_3]? = some v) (h3 : Contract prg 48 [v.pv] (vB val)) (h4 : val = true) (h5 : Contract prg 59 [v.pv] (vI sig)) (h6 : sig < 0) : Loop1 i_3 l (vI 3) :=
  L.done mixed tabOk (n := 159) (ns := [1, 1, 3, 1, 1, 1, 1, 1, 1, 1, 1, 1, 1, 1]) (tr := [.auto, .reg [.none, .none, .none, (iI (l.breaks.length : Int))], .dec true, .reg [.none, .none, .none, (.row i_3 (ARat.cells v))], dr 14 0 [.none, (.pv (vB val)), .none, .none, .none, (.pv (vI sig)), .none, (.dec false), .none, .skip, .skip, .skip, .skip, (.dec true)], .auto, .reg []]) (cj (o_len ARat.cells l.breaks) (cj (dltN_t h1) (cj (o_at ARat.cells (Eq.refl (((i_3 : Nat) : Int) : Int)) h2) (cj h3 (cj (bnot_f h4) (cj (bnot_f h4) (cj h5 (cj (bnot_f h4) (cj (bnot_f h4) (cj (dlt_t h6) (cj (dlt_t h6) (cj (dlt_t h6) (cj (dlt_t h6) (cj (dlt_t h6) True.intro)))))))))))))) (by kernel_rfl)
theorem l12 (i_3 : Nat) (l : ALaw) (v : ARat) (val : Bool) (sig : Int) (of : ARat) (cmp : Int) (h1 : i_3 < l.breaks.length) (h2 : l.breaks[i_3]? = some v) (h3 : Contract prg 48 [v.pv] (vB val)) (h4 : val = true) (h5 : Contract prg 59 [v.pv] (vI sig)) (h6 : 0 ≤ sig) (h7 : Contract prg 70 [(vI 1)] of.pv) (h8 : Contract prg 99 [v.pv, of.pv] (vI cmp)) (h9 : 0 ≤ cmp) : Loop1 i_3 l (vI 3) :=
  L.done mixed tabOk (n := 159) (ns := [1, 1, 3, 1, 1, 1, 1, 1, 1, 1, 1, 1, 1, 1, 1, 1, 1]) (tr := [.auto, .reg [.none, .none, .none, (iI (l.breaks.length : Int))], .dec true, .reg [.none, .none, .none, (.row i_3 (ARat.cells v))], dr 14 0 [.none, (.pv (vB val)), .none, .none, .none, (.pv (vI sig)), .none, (.dec false), .none, .none, (.pv of.pv), (.pv (vI cmp)), .none, (.dec false)], .dec true, .reg []]) (cj (o_len ARat.cells l.breaks) (cj (dltN_t h1) (cj (o_at ARat.cells (Eq.refl (((i_3 : Nat) : Int) : Int)) h2) (cj h3 (cj (bnot_f h4) (cj (bnot_f h4) (cj h5 (cj (bnot_f h4) (cj (bnot_f h4) (cj (dlt_f h6) (cj (dlt_f h6) (cj h7 (cj (dlt_f h6) (cj h8 (cj (dlt_f h6) (cj (dlt_f h6) (cj (dle_t h9) True.intro))))))))))))))))) (by kernel_rfl)
theorem l13 (i_3 : Nat) (l : ALaw) (v : ARat) (val : Bool) (sig : Int) (of : ARat) (cmp sig1 : Int) (h1 : i_3 < l.breaks.length) (h2 : l.breaks[i_3]? = some v) (h3 : Contract prg 48 [v.pv] (vB val)) (h4 : val = true) (h5 : Contract prg 59 [v.pv] (vI sig)) (h6 : 0 ≤ sig) (h7 : Contract prg 70 [(vI 1)] of.pv) (h8 : Contract prg 99 [v.pv, of.pv] (vI cmp)) (h9 : cmp < 0) (h10 : i_3 = 0) (h11 : Contract prg 59 [v.pv] (vI sig1)) (h12 : sig1 ≠ 0) : Loop1 i_3 l (vI 12) :=
  L.done mixed tabOk (n := 171) (ns := [1, 1, 3, 1, 1, 1, 1, 1, 1, 1, 1, 1, 1, 1, 1, 1, 1, 1, 1, 1, 1, 1, 1, 1, 1, 1, 1]) (tr := [.auto, .reg [.none, .none, .none, (iI (l.breaks.length : Int))], .dec true, .reg [.none, .none, .none, (.row i_3 (ARat.cells v))], dr 14 0 [.none, (.pv (vB val)), .none, .none, .none, (.pv (vI sig)), .none, (.dec false), .none, .none, (.pv of.pv), (.pv (vI cmp)), .none, (.dec false)], .dec false, dr 22 0 [.none, .none, .none, .none, (.pv (vI sig1)), .none, (.dec true), .none, .skip, .skip, .skip, .skip, .skip, .skip, .skip, .skip, .skip, .skip, .skip, .skip, .skip, (.dec true)], .auto, .reg []]) (cj (o_len ARat.cells l.breaks) (cj (dltN_t h1) (cj (o_at ARat.cells (Eq.refl (((i_3 : Nat) : Int) : Int)) h2) (cj h3 (cj (bnot_f h4) (cj (bnot_f h4) (cj h5 (cj (bnot_f h4) (cj (bnot_f h4) (cj (dlt_f h6) (cj (dlt_f h6) (cj h7 (cj (dlt_f h6) (cj h8 (cj (dlt_f h6) (cj (dlt_f h6) (cj (dle_f h9) (cj (deqN_t h10) (cj (deqN_t h10) (cj h11 (cj (deqN_t h10) (cj (deqN_t h10) (cj (dne_t h12) (cj (dne_t h12) (cj (dne_t h12) (cj (dne_t h12) (cj (dne_t h12) True.intro))))))))))))))))))))))))))) (by kernel_rfl)
theorem l16 (i_3 : Nat) (l : ALaw) (v : ARat) (val : Bool) (sig : Int) (of : ARat) (cmp sig1 : Int) {r : PV} (h1 : i_3 < l.breaks.length) (h2 : l.breaks[i_3]? = some v) (h3 : Contract prg 48 [v.pv] (vB val)) (h4 : val = true) (h5 : Contract prg 59 [v.pv] (vI sig)) (h6 : 0 ≤ sig) (h7 : Contract prg 70 [(vI 1)] of.pv) (h8 : Contract prg 99 [v.pv, of.pv] (vI cmp)) (h9 : cmp < 0) (h10 : i_3 = 0) (h11 : Contract prg 59 [v.pv] (vI sig1)) (h12 : sig1 = 0) (h13 : i_3 ≤ 0) (h14 : (i_3 + 1) < 9223372036854775808) (hL : Loop1 (i_3 + 1) l r) : Loop1 i_3 l r :=
  L.go mixed tabOk (n := 174) (ns := [1, 1, 3, 1, 1, 1, 1, 1, 1, 1, 1, 1, 1, 1, 1, 1, 1, 1, 1, 1, 1, 1, 1, 1, 1, 1, 1, 1, 1, 1, 1, 1, 1, 1, 1, 1, 1, 1]) (tr := [.auto, .reg [.none, .none, .none, (iI (l.breaks.length : Int))], .dec true, .reg [.none, .none, .none, (.row i_3 (ARat.cells v))], dr 14 0 [.none, (.pv (vB val)), .none, .none, .none, (.pv (vI sig)), .none, (.dec false), .none, .none, (.pv of.pv), (.pv (vI cmp)), .none, (.dec false)], .dec false, dr 22 0 [.none, .none, .none, .none, (.pv (vI sig1)), .none, (.dec true), .none, .none, .none, .none, .skip, .skip, .skip, .skip, .skip, .skip, .skip, .skip, .skip, (.dec false), (.dec false)], .auto, .reg [.none, (iI (((i_3 + 1) : Nat) : Int))], .keep [1, 3], .drop [4]]) (cj (o_len ARat.cells l.breaks) (cj (dltN_t h1) (cj (o_at ARat.cells (Eq.refl (((i_3 : Nat) : Int) : Int)) h2) (cj h3 (cj (bnot_f h4) (cj (bnot_f h4) (cj h5 (cj (bnot_f h4) (cj (bnot_f h4) (cj (dlt_f h6) (cj (dlt_f h6) (cj h7 (cj (dlt_f h6) (cj h8 (cj (dlt_f h6) (cj (dlt_f h6) (cj (dle_f h9) (cj (deqN_t h10) (cj (deqN_t h10) (cj h11 (cj (deqN_t h10) (cj (deqN_t h10) (cj (dne_f h12) (cj (dne_f h12) (cj (dne_f h12) (cj (dltN_f h13) (cj (dltN_f h13) (cj (dltN_f h13) (cj (dltN_f h13) (cj (dltN_f h13) (cj (dltN_f h13) (cj (dltN_f h13) (cj (dltN_f h13) (cj (dltN_f h13) (cj (dne_f h12) (cj (dltN_f h13) (cj (dne_f h12) (cj (bs_addN h14) True.intro)))))))))))))))))))))))))))))))))))))) (by kernel_rfl) hL
theorem l17 (i_3 : Nat) (l : ALaw) (v : ARat) (val : Bool) (sig : Int) (of : ARat) (cmp : Int) (k : Nat) (v1 : ARat) (cmp1 : Int) (h1 : i_3 < l.breaks.length) (h2 : l.breaks[i_3]? = some v) (h3 : Contract prg 48 [v.pv] (vB val)) (h4 : val = true) (h5 : Contract prg 59 [v.pv] (vI sig)) (h6 : 0 ≤ sig) (h7 : Contract prg 70 [(vI 1)] of.pv) (h8 : Contract prg 99 [v.pv, of.pv] (vI cmp)) (h9 : cmp < 0) (h10 : i_3 ≠ 0) (h11 : 0 < i_3) (h12 : InI64 ((i_3 : Int) - 1)) (h13 : ((i_3 : Int) - 1) = (k : Int)) (h14 : l.breaks[k]? = some v1) (h15 : Contract prg 99 [v.pv, v1.pv] (vI cmp1)) (h16 : cmp1 ≤ 0) : Loop1 i_3 l (vI 12) :=
  L.done mixed tabOk (n := 171) (ns := [1, 1, 3, 1, 1, 1, 1, 1, 1, 1, 1, 1, 1, 1, 1, 1, 1, 1, 1, 1, 1, 1, 1, 1, 1, 1, 1, 1, 1, 1, 1, 3, 1, 1, 1, 1, 1, 1, 1]) (tr := [.auto, .reg [.none, .none, .none, (iI (l.breaks.length : Int))], .dec true, .reg [.none, .none, .none, (.row i_3 (ARat.cells v))], dr 14 0 [.none, (.pv (vB val)), .none, .none, .none, (.pv (vI sig)), .none, (.dec false), .none, .none, (.pv of.pv), (.pv (vI cmp)), .none, (.dec false)], .dec false, dr 22 0 [.none, .none, .none, .skip, .skip, .skip, (.dec false), .none, .none, .none, .none, .none, .none, .none, .none, (iI ((i_3 : Int) - 1)), (.row k (ARat.cells v1)), .none, (.pv (vI cmp1)), .none, (.dec true)], .dec true, .reg []]) (cj (o_len ARat.cells l.breaks) (cj (dltN_t h1) (cj (o_at ARat.cells (Eq.refl (((i_3 : Nat) : Int) : Int)) h2) (cj h3 (cj (bnot_f h4) (cj (bnot_f h4) (cj h5 (cj (bnot_f h4) (cj (bnot_f h4) (cj (dlt_f h6) (cj (dlt_f h6) (cj h7 (cj (dlt_f h6) (cj h8 (cj (dlt_f h6) (cj (dlt_f h6) (cj (dle_f h9) (cj (deqN_f h10) (cj (deqN_f h10) (cj (deqN_f h10) (cj (deqN_f h10) (cj (Eq.refl false) (cj (Eq.refl false) (cj (Eq.refl false) (cj (dltN_t h11) (cj (dltN_t h11) (cj (dltN_t h11) (cj (dltN_t h11) (cj (dltN_t h11) (cj (bs_sub h12) (cj (dltN_t h11) (cj (o_at ARat.cells h13 h14) (cj (dltN_t h11) (cj (dltN_t h11) (cj h15 (cj (dltN_t h11) (cj (Eq.refl false) (cj (dltN_t h11) (cj (dle_t h16) True.intro))))))))))))))))))))))))))))))))))))))) (by kernel_rfl)
theorem l18 (i_3 : Nat) (l : ALaw) (v : ARat) (val : Bool) (sig : Int) (of : ARat) (cmp : Int) (k : Nat) (v1 : ARat) (cmp1 : Int) {r : PV} (h1 : i_3 < l.breaks.length) (h2 : l.breaks[i_3]? = some v) (h3 : Contract prg 48 [v.pv] (vB val)) (h4 : val = true) (h5 : Contract prg 59 [v.pv] (vI sig)) (h6 : 0 ≤ sig) (h7 : Contract prg 70 [(vI 1)] of.pv) (h8 : Contract prg 99 [v.pv, of.pv] (vI cmp)) (h9 : cmp < 0) (h10 : i_3 ≠ 0) (h11 : 0 < i_3) (h12 : InI64 ((i_3 : Int) - 1)) (h13 : ((i_3 : Int) - 1) = (k : Int)) (h14 : l.breaks[k]? = some v1) (h15 : Contract prg 99 [v.pv, v1.pv] (vI cmp1)) (h16 : 0 < cmp1) (h17 : (i_3 + 1) < 9223372036854775808) (hL : Loop1 (i_3 + 1) l r) : Loop1 i_3 l r :=
  L.go mixed tabOk (n := 174) (ns := [1, 1, 3, 1, 1, 1, 1, 1, 1, 1, 1, 1, 1, 1, 1, 1, 1, 1, 1, 1, 1, 1, 1, 1, 1, 1, 1, 1, 1, 1, 1, 3, 1, 1, 1, 1, 1, 1, 1, 1]) (tr := [.auto, .reg [.none, .none, .none, (iI (l.breaks.length : Int))], .dec true, .reg [.none, .none, .none, (.row i_3 (ARat.cells v))], dr 14 0 [.none, (.pv (vB val)), .none, .none, .none, (.pv (vI sig)), .none, (.dec false), .none, .none, (.pv of.pv), (.pv (vI cmp)), .none, (.dec false)], .dec false, dr 22 0 [.none, .none, .none, .skip, .skip, .skip, (.dec false), .none, .none, .none, .none, .none, .none, .none, .none, (iI ((i_3 : Int) - 1)), (.row k (ARat.cells v1)), .none, (.pv (vI cmp1)), .none, (.dec true)], .dec false, .reg [.none, (iI (((i_3 + 1) : Nat) : Int))], .keep [1, 3], .drop [4]]) (cj (o_len ARat.cells l.breaks) (cj (dltN_t h1) (cj (o_at ARat.cells (Eq.refl (((i_3 : Nat) : Int) : Int)) h2) (cj h3 (cj (bnot_f h4) (cj (bnot_f h4) (cj h5 (cj (bnot_f h4) (cj (bnot_f h4) (cj (dlt_f h6) (cj (dlt_f h6) (cj h7 (cj (dlt_f h6) (cj h8 (cj (dlt_f h6) (cj (dlt_f h6) (cj (dle_f h9) (cj (deqN_f h10) (cj (deqN_f h10) (cj (deqN_f h10) (cj (deqN_f h10) (cj (Eq.refl false) (cj (Eq.refl false) (cj (Eq.refl false) (cj (dltN_t h11) (cj (dltN_t h11) (cj (dltN_t h11) (cj (dltN_t h11) (cj (dltN_t h11) (cj (bs_sub h12) (cj (dltN_t h11) (cj (o_at ARat.cells h13 h14) (cj (dltN_t h11) (cj (dltN_t h11) (cj h15 (cj (dltN_t h11) (cj (Eq.refl false) (cj (dltN_t h11) (cj (dle_f h16) (cj (bs_addN h17) True.intro)))))))))))))))))))))))))))))))))))))))) (by kernel_rfl) hL
theorem l110 (i_3 : Nat) (l : ALaw) {r : PV} (h1 : l.breaks.length ≤ i_3) (hL : Loop2 0 l r) : Loop1 i_3 l r :=
  L.go mixed tabOk (n := 153) (ns := [1, 1]) (tr := [.auto, .reg [.none, .none, .none, (iI (l.breaks.length : Int))], .dec false, .reg [], .keep [1, 5]]) (cj (o_len ARat.cells l.breaks) (cj (dltN_f h1) True.intro)) (by kernel_rfl) hL
theorem l20 (i_5 : Nat) (l : ALaw) (v : List ARat) (che : Int) (h1 : i_5 < l.pieces.length) (h2 : l.pieces[i_5]? = some v) (h3 : Contract prg 83 [(polyPV v)] (vI che)) (h4 : che ≠ 0) : Loop2 i_5 l (vI che) :=
  L.done mixed tabOk (n := 201) (ns := [1, 1, 3, 1, 1]) (tr := [.auto, .reg [.none, .none, .none, (iI (l.pieces.length : Int))], .dec true, .reg [.none, .none, .none, (.row i_5 ((lcell ARat.cells) v)), .none, (.pv (vI che))], .reg [], .dec true, .reg []]) (cj (o_len (lcell ARat.cells) l.pieces) (cj (dltN_t h1) (cj (o_at (lcell ARat.cells) (Eq.refl (((i_5 : Nat) : Int) : Int)) h2) (cj h3 (cj (dne_t h4) True.intro))))) (by kernel_rfl)
theorem l21 (i_5 : Nat) (l : ALaw) (v : List ARat) (che : Int) (h1 : i_5 < l.pieces.length) (h2 : l.pieces[i_5]? = some v) (h3 : Contract prg 83 [(polyPV v)] (vI che)) (h4 : che = 0) (h5 : 9 < v.length) : Loop2 i_5 l (vI 4) :=
  L.done mixed tabOk (n := 213) (ns := [1, 1, 3, 1, 1, 3, 1, 1]) (tr := [.auto, .reg [.none, .none, .none, (iI (l.pieces.length : Int))], .dec true, .reg [.none, .none, .none, (.row i_5 ((lcell ARat.cells) v)), .none, (.pv (vI che))], .reg [], .dec false, .reg [.none, .none, .none, (.row i_5 ((lcell ARat.cells) v)), .none, (iI (v.length : Int))], .dec true, .reg []]) (cj (o_len (lcell ARat.cells) l.pieces) (cj (dltN_t h1) (cj (o_at (lcell ARat.cells) (Eq.refl (((i_5 : Nat) : Int) : Int)) h2) (cj h3 (cj (dne_f h4) (cj (o_at (lcell ARat.cells) (Eq.refl (((i_5 : Nat) : Int) : Int)) h2) (cj (o_len ARat.cells v) (cj (dltN_t h5) True.intro)))))))) (by kernel_rfl)
theorem l22 (i_5 : Nat) (l : ALaw) (v : List ARat) (che : Int) {r : PV} (h1 : i_5 < l.pieces.length) (h2 : l.pieces[i_5]? = some v) (h3 : Contract prg 83 [(polyPV v)] (vI che)) (h4 : che = 0) (h5 : v.length ≤ 9) (h6 : (i_5 + 1) < 9223372036854775808) (hL : Loop2 (i_5 + 1) l r) : Loop2 i_5 l r :=
  L.go mixed tabOk (n := 216) (ns := [1, 1, 3, 1, 1, 3, 1, 1, 1]) (tr := [.auto, .reg [.none, .none, .none, (iI (l.pieces.length : Int))], .dec true, .reg [.none, .none, .none, (.row i_5 ((lcell ARat.cells) v)), .none, (.pv (vI che))], .reg [], .dec false, .reg [.none, .none, .none, (.row i_5 ((lcell ARat.cells) v)), .none, (iI (v.length : Int))], .dec false, .reg [.none, (iI (((i_5 + 1) : Nat) : Int))], .keep [1, 5]]) (cj (o_len (lcell ARat.cells) l.pieces) (cj (dltN_t h1) (cj (o_at (lcell ARat.cells) (Eq.refl (((i_5 : Nat) : Int) : Int)) h2) (cj h3 (cj (dne_f h4) (cj (o_at (lcell ARat.cells) (Eq.refl (((i_5 : Nat) : Int) : Int)) h2) (cj (o_len ARat.cells v) (cj (dltN_f h5) (cj (bs_addN h6) True.intro))))))))) (by kernel_rfl) hL
theorem l23 (i_5 : Nat) (l : ALaw) (h1 : l.pieces.length ≤ i_5) : Loop2 i_5 l (vI 0) :=
  L.done mixed tabOk (n := 186) (ns := [1, 1]) (tr := [.auto, .reg [.none, .none, .none, (iI (l.pieces.length : Int))], .dec false, .reg []]) (cj (o_len (lcell ARat.cells) l.pieces) (cj (dltN_f h1) True.intro)) (by kernel_rfl)
end linkworkref52_Check
namespace law_At
theorem e1 (l : ALaw) (x : ARat) (val : Bool) (wra : ARat) (pie : Int) (k : Nat) (v : List ARat) (k1 : Nat) (v1 sub eva : ARat) (eva1 : Option Int) (h1 : Contract prg 114 [l.pv] .nilI) (h2 : Contract prg 97 [x.pv] (vB val)) (h3 : val = true) (h4 : Contract prg 142 [x.pv] (.tup [wra.pv, .nilI])) (h5 : Contract prg 147 [l.pv, wra.pv] (vI pie)) (h6 : pie = (k : Int)) (h7 : l.pieces[k]? = some v) (h8 : pie = (k1 : Int)) (h9 : l.breaks[k1]? = some v1) (h10 : Contract prg 146 [wra.pv, v1.pv] sub.pv) (h11 : Contract prg 27 [(polyPV v), sub.pv] (.tup [eva.pv, (errPV eva1)])) : Contract prg 107 [l.pv, x.pv] (.tup [eva.pv, (errPV eva1)]) :=
  Contract.ofL Tryz.func107 (by kernel_rfl) (L.done mixed tabOk (n := 135) (ns := [1, 1, 1, 1, 1, 3, 3, 1, 1]) (tr := [.reg [], .reg [.none, (.pv .nilI)], .reg [], .auto, .reg [.none, (.pv (vB val))], .dec false, .reg [.none, (.pv (.tup [wra.pv, .nilI]))], .reg [], .auto, .reg [.none, .none, (.pv (vI pie))], dr 15 2 [.none, .none, .none, (.row k ((lcell ARat.cells) v)), .none, .none, .none, .none, .none, (.row k1 (ARat.cells v1)), .none, (.pv sub.pv), (.pv (.tup [eva.pv, (errPV eva1)]))]]) (cj h1 (cj h2 (cj (bnot_f h3) (cj h4 (cj h5 (cj (o_at (lcell ARat.cells) h6 h7) (cj (o_at ARat.cells h8 h9) (cj h10 (cj h11 True.intro))))))))) (by kernel_rfl))
end law_At
namespace law_Check
@[reducible] noncomputable def fn : Func := Tryz.f114
noncomputable def atK1 : List Itm := focus [0, 2, 0, 0, 2, 1, 2, 0, 0, 2, 1, 2, 0, 0, 2, 0, 0] [.code (bodyOf fn)]
def inv1 (l : ALaw) (t_30 : Nat) : St := ⟨[(1, (.ptr 1 0)), (28, (.pv (polyPV l.breaks))), (29, (eI (l.breaks.length : Int))), (30, (eI (t_30 : Int)))], [(1, (.lit [(.pv (polyPV l.breaks)), (.pv (lpv (lcell ARat.cells) l.pieces))]))]⟩
@[reducible] noncomputable def Loop1 (l : ALaw) (t_30 : Nat) (r : PV) : Prop := L prg fn atK1 (inv1 l t_30) r
noncomputable def atK2 : List Itm := focus [0, 2, 0, 0, 2, 1, 2, 0, 0, 2, 1, 2, 0, 0, 2, 0, 0, 0, 0, 2, 0, 1, 2, 2, 2, 2, 0, 0, 2, 0, 0] [.code (bodyOf fn)]
def inv2 (l : ALaw) (t_77 : Nat) : St := ⟨[(75, (.pv (lpv (lcell ARat.cells) l.pieces))), (76, (eI (l.pieces.length : Int))), (77, (eI (t_77 : Int)))], []⟩
@[reducible] noncomputable def Loop2 (l : ALaw) (t_77 : Nat) (r : PV) : Prop := L prg fn atK2 (inv2 l t_77) r
theorem e0 (l : ALaw) (h1 : l.breaks.length = 0) : Contract prg 114 [l.pv] (.iface 94 (vI 10)) :=
  Contract.ofL Tryz.func114 (by kernel_rfl) (L.done mixed tabOk (n := 84) (ns := [1, 1, 1, 1, 1, 1, 1, 1, 1]) (tr := [.reg [], .reg [.none, .none, (iI (l.breaks.length : Int)), .none, .none, .skip, .skip, .skip, .skip, .skip, .skip, .skip, (.dec true)], .auto, .reg []]) (cj (o_len ARat.cells l.breaks) (cj (deqN_t h1) (cj (deqN_t h1) (cj (deqN_t h1) (cj (deqN_t h1) (cj (deqN_t h1) (cj (deqN_t h1) (cj (deqN_t h1) (cj (deqN_t h1) True.intro))))))))) (by kernel_rfl))
theorem e1 (l : ALaw) (h1 : l.breaks.length ≠ 0) (h2 : l.breaks.length ≠ l.pieces.length) : Contract prg 114 [l.pv] (.iface 94 (vI 10)) :=
  Contract.ofL Tryz.func114 (by kernel_rfl) (L.done mixed tabOk (n := 84) (ns := [1, 1, 1, 1, 1, 1, 1, 1, 1, 1, 1, 1]) (tr := [.reg [], .reg [.none, .none, (iI (l.breaks.length : Int)), .none, .none, .none, .none, (iI (l.breaks.length : Int)), .none, .none, (iI (l.pieces.length : Int)), .none, (.dec false)], .dec true, .reg []]) (cj (o_len ARat.cells l.breaks) (cj (deqN_f h1) (cj (deqN_f h1) (cj (deqN_f h1) (cj (o_len ARat.cells l.breaks) (cj (deqN_f h1) (cj (deqN_f h1) (cj (deqN_f h1) (cj (o_len (lcell ARat.cells) l.pieces) (cj (deqN_f h1) (cj (deqN_f h1) (cj (dneN_t h2) True.intro)))))))))))) (by kernel_rfl))
theorem e2 (l : ALaw) (h1 : l.breaks.length ≠ 0) (h2 : l.breaks.length = l.pieces.length) (h3 : 16 < l.breaks.length) : Contract prg 114 [l.pv] (.iface 94 (vI 4)) :=
  Contract.ofL Tryz.func114 (by kernel_rfl) (L.done mixed tabOk (n := 99) (ns := [1, 1, 1, 1, 1, 1, 1, 1, 1, 1, 1, 1, 1, 1]) (tr := [.reg [], .reg [.none, .none, (iI (l.breaks.length : Int)), .none, .none, .none, .none, (iI (l.breaks.length : Int)), .none, .none, (iI (l.pieces.length : Int)), .none, (.dec false)], .dec false, .reg [.none, .none, (iI (l.breaks.length : Int))], .dec true, .reg []]) (cj (o_len ARat.cells l.breaks) (cj (deqN_f h1) (cj (deqN_f h1) (cj (deqN_f h1) (cj (o_len ARat.cells l.breaks) (cj (deqN_f h1) (cj (deqN_f h1) (cj (deqN_f h1) (cj (o_len (lcell ARat.cells) l.pieces) (cj (deqN_f h1) (cj (deqN_f h1) (cj (dneN_f h2) (cj (o_len ARat.cells l.breaks) (cj (dltN_t h3) True.intro)))))))))))))) (by kernel_rfl))
theorem e3 (l : ALaw) {r : PV} (h1 : l.breaks.length ≠ 0) (h2 : l.breaks.length = l.pieces.length) (h3 : l.breaks.length ≤ 16) (hL : Loop1 l 0 r) : Contract prg 114 [l.pv] r :=
  Contract.ofL Tryz.func114 (by kernel_rfl) (L.go mixed tabOk (n := 111) (ns := [1, 1, 1, 1, 1, 1, 1, 1, 1, 1, 1, 1, 1, 1, 1]) (tr := [.reg [], .reg [.none, .none, (iI (l.breaks.length : Int)), .none, .none, .none, .none, (iI (l.breaks.length : Int)), .none, .none, (iI (l.pieces.length : Int)), .none, (.dec false)], .dec false, .reg [.none, .none, (iI (l.breaks.length : Int))], .dec false, .reg [.none, .none, (iI (l.breaks.length : Int))], .keep [1, 28, 29, 30]]) (cj (o_len ARat.cells l.breaks) (cj (deqN_f h1) (cj (deqN_f h1) (cj (deqN_f h1) (cj (o_len ARat.cells l.breaks) (cj (deqN_f h1) (cj (deqN_f h1) (cj (deqN_f h1) (cj (o_len (lcell ARat.cells) l.pieces) (cj (deqN_f h1) (cj (deqN_f h1) (cj (dneN_f h2) (cj (o_len ARat.cells l.breaks) (cj (dltN_f h3) (cj (o_len ARat.cells l.breaks) True.intro))))))))))))))) (by kernel_rfl) hL)
theorem l10 (l : ALaw) (t_30 : Nat) (v : ARat) (val : Bool) (h1 : t_30 < l.breaks.length) (h2 : l.breaks[t_30]? = some v) (h3 : Contract prg 97 [v.pv] (vB val)) (h4 : val = false) : Loop1 l t_30 (.iface 94 (vI 3)) :=
  L.done mixed tabOk (n := 159) (ns := [1, 3, 1, 1, 1, 1, 1, 1, 1, 1, 1]) (tr := [.auto, .reg [], .dec true, .reg [.none, (.row t_30 (ARat.cells v))], dr 14 0 [.none, (.pv (vB val)), .none, .none, .skip, .skip, .skip, (.dec true), .none, .skip, .skip, .skip, .skip], .auto, .reg []]) (cj (dltN_t h1) (cj (o_at ARat.cells (Eq.refl (((t_30 : Nat) : Int) : Int)) h2) (cj h3 (cj (bnot_t h4) (cj (bnot_t h4) (cj (bnot_t h4) (cj (bnot_t h4) (cj (Eq.refl true) (cj (Eq.refl true) (cj (Eq.refl true) (cj (Eq.refl true) True.intro))))))))))) (by kernel_rfl)
theorem l11 (l : ALaw) (t_30 : Nat) (v : ARat) (val : Bool) (sig : Int) (h1 : t_30 < l.breaks.length) (h2 : l.breaks[t_30]? = some v) (h3 : Contract prg 97 [v.pv] (vB val)) (h4 : val = true) (h5 : Contract prg 39 [v.pv] (vI sig)) (h6 : sig < 0) : Loop1 l t_30 (.iface 94 (vI 3)) :=
  L.done mixed tabOk (n := 159) (ns := [1, 3, 1, 1, 1, 1, 1, 1, 1, 1, 1, 1, 1]) (tr := [.auto, .reg [], .dec true, .reg [.none, (.row t_30 (ARat.cells v))], dr 14 0 [.none, (.pv (vB val)), .none, .none, .none, (.pv (vI sig)), .none, (.dec false), .none, .skip, .skip, .skip, .skip, (.dec true)], .auto, .reg []]) (cj (dltN_t h1) (cj (o_at ARat.cells (Eq.refl (((t_30 : Nat) : Int) : Int)) h2) (cj h3 (cj (bnot_f h4) (cj (bnot_f h4) (cj h5 (cj (bnot_f h4) (cj (bnot_f h4) (cj (dlt_t h6) (cj (dlt_t h6) (cj (dlt_t h6) (cj (dlt_t h6) (cj (dlt_t h6) True.intro))))))))))))) (by kernel_rfl)
theorem l12 (l : ALaw) (t_30 : Nat) (v : ARat) (val : Bool) (sig : Int) (one : ARat) (cmp : Int) (h1 : t_30 < l.breaks.length) (h2 : l.breaks[t_30]? = some v) (h3 : Contract prg 97 [v.pv] (vB val)) (h4 : val = true) (h5 : Contract prg 39 [v.pv] (vI sig)) (h6 : 0 ≤ sig) (h7 : Contract prg 149 [] one.pv) (h8 : Contract prg 29 [v.pv, one.pv] (vI cmp)) (h9 : 0 ≤ cmp) : Loop1 l t_30 (.iface 94 (vI 3)) :=
  L.done mixed tabOk (n := 159) (ns := [1, 3, 1, 1, 1, 1, 1, 1, 1, 1, 1, 1, 1, 1, 1, 1]) (tr := [.auto, .reg [], .dec true, .reg [.none, (.row t_30 (ARat.cells v))], dr 14 0 [.none, (.pv (vB val)), .none, .none, .none, (.pv (vI sig)), .none, (.dec false), .none, .none, (.pv one.pv), (.pv (vI cmp)), .none, (.dec false)], .dec true, .reg []]) (cj (dltN_t h1) (cj (o_at ARat.cells (Eq.refl (((t_30 : Nat) : Int) : Int)) h2) (cj h3 (cj (bnot_f h4) (cj (bnot_f h4) (cj h5 (cj (bnot_f h4) (cj (bnot_f h4) (cj (dlt_f h6) (cj (dlt_f h6) (cj h7 (cj (dlt_f h6) (cj h8 (cj (dlt_f h6) (cj (dlt_f h6) (cj (dle_t h9) True.intro)))))))))))))))) (by kernel_rfl)
theorem l13 (l : ALaw) (t_30 : Nat) (v : ARat) (val : Bool) (sig : Int) (one : ARat) (cmp sig1 : Int) (h1 : t_30 < l.breaks.length) (h2 : l.breaks[t_30]? = some v) (h3 : Contract prg 97 [v.pv] (vB val)) (h4 : val = true) (h5 : Contract prg 39 [v.pv] (vI sig)) (h6 : 0 ≤ sig) (h7 : Contract prg 149 [] one.pv) (h8 : Contract prg 29 [v.pv, one.pv] (vI cmp)) (h9 : cmp < 0) (h10 : t_30 = 0) (h11 : Contract prg 39 [v.pv] (vI sig1)) (h12 : sig1 ≠ 0) : Loop1 l t_30 (.iface 94 (vI 12)) :=
  L.done mixed tabOk (n := 171) (ns := [1, 3, 1, 1, 1, 1, 1, 1, 1, 1, 1, 1, 1, 1, 1, 1, 1, 1, 1, 1, 1, 1, 1, 1, 1, 1]) (tr := [.auto, .reg [], .dec true, .reg [.none, (.row t_30 (ARat.cells v))], dr 14 0 [.none, (.pv (vB val)), .none, .none, .none, (.pv (vI sig)), .none, (.dec false), .none, .none, (.pv one.pv), (.pv (vI cmp)), .none, (.dec false)], .dec false, dr 22 0 [.none, .none, .none, .none, (.pv (vI sig1)), .none, (.dec true), .none, .skip, .skip, .skip, .skip, .skip, .skip, .skip, .skip, .skip, .skip, .skip, .skip, .skip, (.dec true)], .auto, .reg []]) (cj (dltN_t h1) (cj (o_at ARat.cells (Eq.refl (((t_30 : Nat) : Int) : Int)) h2) (cj h3 (cj (bnot_f h4) (cj (bnot_f h4) (cj h5 (cj (bnot_f h4) (cj (bnot_f h4) (cj (dlt_f h6) (cj (dlt_f h6) (cj h7 (cj (dlt_f h6) (cj h8 (cj (dlt_f h6) (cj (dlt_f h6) (cj (dle_f h9) (cj (deqN_t h10) (cj (deqN_t h10) (cj h11 (cj (deqN_t h10) (cj (deqN_t h10) (cj (dne_t h12) (cj (dne_t h12) (cj (dne_t h12) (cj (dne_t h12) (cj (dne_t h12) True.intro)))))))))))))))))))))))))) (by kernel_rfl)
theorem l16 (l : ALaw) (t_30 : Nat) (v : ARat) (val : Bool) (sig : Int) (one : ARat) (cmp sig1 : Int) {r : PV} (h1 : t_30 < l.breaks.length) (h2 : l.breaks[t_30]? = some v) (h3 : Contract prg 97 [v.pv] (vB val)) (h4 : val = true) (h5 : Contract prg 39 [v.pv] (vI sig)) (h6 : 0 ≤ sig) (h7 : Contract prg 149 [] one.pv) (h8 : Contract prg 29 [v.pv, one.pv] (vI cmp)) (h9 : cmp < 0) (h10 : t_30 = 0) (h11 : Contract prg 39 [v.pv] (vI sig1)) (h12 : sig1 = 0) (h13 : t_30 ≤ 0) (h14 : (t_30 + 1) < 9223372036854775808) (hL : Loop1 l (t_30 + 1) r) : Loop1 l t_30 r :=
  L.go mixed tabOk (n := 174) (ns := [1, 3, 1, 1, 1, 1, 1, 1, 1, 1, 1, 1, 1, 1, 1, 1, 1, 1, 1, 1, 1, 1, 1, 1, 1, 1, 1, 1, 1, 1, 1, 1, 1, 1, 1, 1, 1]) (tr := [.auto, .reg [], .dec true, .reg [.none, (.row t_30 (ARat.cells v))], dr 14 0 [.none, (.pv (vB val)), .none, .none, .none, (.pv (vI sig)), .none, (.dec false), .none, .none, (.pv one.pv), (.pv (vI cmp)), .none, (.dec false)], .dec false, dr 22 0 [.none, .none, .none, .none, (.pv (vI sig1)), .none, (.dec true), .none, .none, .none, .none, .skip, .skip, .skip, .skip, .skip, .skip, .skip, .skip, .skip, (.dec false), (.dec false)], .auto, .reg [(iI (((t_30 + 1) : Nat) : Int))], .keep [1, 28, 29, 30], .drop [4]]) (cj (dltN_t h1) (cj (o_at ARat.cells (Eq.refl (((t_30 : Nat) : Int) : Int)) h2) (cj h3 (cj (bnot_f h4) (cj (bnot_f h4) (cj h5 (cj (bnot_f h4) (cj (bnot_f h4) (cj (dlt_f h6) (cj (dlt_f h6) (cj h7 (cj (dlt_f h6) (cj h8 (cj (dlt_f h6) (cj (dlt_f h6) (cj (dle_f h9) (cj (deqN_t h10) (cj (deqN_t h10) (cj h11 (cj (deqN_t h10) (cj (deqN_t h10) (cj (dne_f h12) (cj (dne_f h12) (cj (dne_f h12) (cj (dltN_f h13) (cj (dltN_f h13) (cj (dltN_f h13) (cj (dltN_f h13) (cj (dltN_f h13) (cj (dltN_f h13) (cj (dltN_f h13) (cj (dltN_f h13) (cj (dltN_f h13) (cj (dne_f h12) (cj (dltN_f h13) (cj (dne_f h12) (cj (bs_addN h14) True.intro))))))))))))))))))))))))))))))))))))) (by kernel_rfl) hL
theorem l17 (l : ALaw) (t_30 : Nat) (v : ARat) (val : Bool) (sig : Int) (one : ARat) (cmp : Int) (k : Nat) (v1 : ARat) (cmp1 : Int) (h1 : t_30 < l.breaks.length) (h2 : l.breaks[t_30]? = some v) (h3 : Contract prg 97 [v.pv] (vB val)) (h4 : val = true) (h5 : Contract prg 39 [v.pv] (vI sig)) (h6 : 0 ≤ sig) (h7 : Contract prg 149 [] one.pv) (h8 : Contract prg 29 [v.pv, one.pv] (vI cmp)) (h9 : cmp < 0) (h10 : t_30 ≠ 0) (h11 : 0 < t_30) (h12 : InI64 ((t_30 : Int) - 1)) (h13 : ((t_30 : Int) - 1) = (k : Int)) (h14 : l.breaks[k]? = some v1) (h15 : Contract prg 29 [v.pv, v1.pv] (vI cmp1)) (h16 : cmp1 ≤ 0) : Loop1 l t_30 (.iface 94 (vI 12)) :=
  L.done mixed tabOk (n := 171) (ns := [1, 3, 1, 1, 1, 1, 1, 1, 1, 1, 1, 1, 1, 1, 1, 1, 1, 1, 1, 1, 1, 1, 1, 1, 1, 1, 1, 1, 1, 1, 3, 1, 1, 1, 1, 1, 1, 1]) (tr := [.auto, .reg [], .dec true, .reg [.none, (.row t_30 (ARat.cells v))], dr 14 0 [.none, (.pv (vB val)), .none, .none, .none, (.pv (vI sig)), .none, (.dec false), .none, .none, (.pv one.pv), (.pv (vI cmp)), .none, (.dec false)], .dec false, dr 22 0 [.none, .none, .none, .skip, .skip, .skip, (.dec false), .none, .none, .none, .none, .none, .none, .none, .none, (iI ((t_30 : Int) - 1)), (.row k (ARat.cells v1)), .none, (.pv (vI cmp1)), .none, (.dec true)], .dec true, .reg []]) (cj (dltN_t h1) (cj (o_at ARat.cells (Eq.refl (((t_30 : Nat) : Int) : Int)) h2) (cj h3 (cj (bnot_f h4) (cj (bnot_f h4) (cj h5 (cj (bnot_f h4) (cj (bnot_f h4) (cj (dlt_f h6) (cj (dlt_f h6) (cj h7 (cj (dlt_f h6) (cj h8 (cj (dlt_f h6) (cj (dlt_f h6) (cj (dle_f h9) (cj (deqN_f h10) (cj (deqN_f h10) (cj (deqN_f h10) (cj (deqN_f h10) (cj (Eq.refl false) (cj (Eq.refl false) (cj (Eq.refl false) (cj (dltN_t h11) (cj (dltN_t h11) (cj (dltN_t h11) (cj (dltN_t h11) (cj (dltN_t h11) (cj (bs_sub h12) (cj (dltN_t h11) (cj (o_at ARat.cells h13 h14) (cj (dltN_t h11) (cj (dltN_t h11) (cj h15 (cj (dltN_t h11) (cj (Eq.refl false) (cj (dltN_t h11) (cj (dle_t h16) True.intro)))))))))))))))))))))))))))))))))))))) (by kernel_rfl)
theorem l18 (l : ALaw) (t_30 : Nat) (v : ARat) (val : Bool) (sig : Int) (one : ARat) (cmp : Int) (k : Nat) (v1 : ARat) (cmp1 : Int) {r : PV} (h1 : t_30 < l.breaks.length) (h2 : l.breaks[t_30]? = some v) (h3 : Contract prg 97 [v.pv] (vB val)) (h4 : val = true) (h5 : Contract prg 39 [v.pv] (vI sig)) (h6 : 0 ≤ sig) (h7 : Contract prg 149 [] one.pv) (h8 : Contract prg 29 [v.pv, one.pv] (vI cmp)) (h9 : cmp < 0) (h10 : t_30 ≠ 0) (h11 : 0 < t_30) (h12 : InI64 ((t_30 : Int) - 1)) (h13 : ((t_30 : Int) - 1) = (k : Int)) (h14 : l.breaks[k]? = some v1) (h15 : Contract prg 29 [v.pv, v1.pv] (vI cmp1)) (h16 : 0 < cmp1) (h17 : (t_30 + 1) < 9223372036854775808) (hL : Loop1 l (t_30 + 1) r) : Loop1 l t_30 r :=
  L.go mixed tabOk (n := 174) (ns := [1, 3, 1, 1, 1, 1, 1, 1, 1, 1, 1, 1, 1, 1, 1, 1, 1, 1, 1, 1, 1, 1, 1, 1, 1, 1, 1, 1, 1, 1, 3, 1, 1, 1, 1, 1, 1, 1, 1]) (tr := [.auto, .reg [], .dec true, .reg [.none, (.row t_30 (ARat.cells v))], dr 14 0 [.none, (.pv (vB val)), .none, .none, .none, (.pv (vI sig)), .none, (.dec false), .none, .none, (.pv one.pv), (.pv (vI cmp)), .none, (.dec false)], .dec false, dr 22 0 [.none, .none, .none, .skip, .skip, .skip, (.dec false), .none, .none, .none, .none, .none, .none, .none, .none, (iI ((t_30 : Int) - 1)), (.row k (ARat.cells v1)), .none, (.pv (vI cmp1)), .none, (.dec true)], .dec false, .reg [(iI (((t_30 + 1) : Nat) : Int))], .keep [1, 28, 29, 30], .drop [4]]) (cj (dltN_t h1) (cj (o_at ARat.cells (Eq.refl (((t_30 : Nat) : Int) : Int)) h2) (cj h3 (cj (bnot_f h4) (cj (bnot_f h4) (cj h5 (cj (bnot_f h4) (cj (bnot_f h4) (cj (dlt_f h6) (cj (dlt_f h6) (cj h7 (cj (dlt_f h6) (cj h8 (cj (dlt_f h6) (cj (dlt_f h6) (cj (dle_f h9) (cj (deqN_f h10) (cj (deqN_f h10) (cj (deqN_f h10) (cj (deqN_f h10) (cj (Eq.refl false) (cj (Eq.refl false) (cj (Eq.refl false) (cj (dltN_t h11) (cj (dltN_t h11) (cj (dltN_t h11) (cj (dltN_t h11) (cj (dltN_t h11) (cj (bs_sub h12) (cj (dltN_t h11) (cj (o_at ARat.cells h13 h14) (cj (dltN_t h11) (cj (dltN_t h11) (cj h15 (cj (dltN_t h11) (cj (Eq.refl false) (cj (dltN_t h11) (cj (dle_f h16) (cj (bs_addN h17) True.intro))))))))))))))))))))))))))))))))))))))) (by kernel_rfl) hL
theorem l110 (l : ALaw) (t_30 : Nat) {r : PV} (h1 : l.breaks.length ≤ t_30) (hL : Loop2 l 0 r) : Loop1 l t_30 r :=
  L.go mixed tabOk (n := 153) (ns := [1, 1]) (tr := [.auto, .reg [], .dec false, .reg [.none, .none, (iI (l.pieces.length : Int))], .keep [75, 76, 77], .drop [1]]) (cj (dltN_f h1) (cj (o_len (lcell ARat.cells) l.pieces) True.intro)) (by kernel_rfl) hL
theorem l20 (l : ALaw) (t_77 : Nat) (v : List ARat) (deg : Int) (h1 : t_77 < l.pieces.length) (h2 : l.pieces[t_77]? = some v) (h3 : Contract prg 78 [(polyPV v)] .nilI) (h4 : Contract prg 157 [(polyPV v)] (vI deg)) (h5 : 8 < deg) : Loop2 l t_77 (.iface 94 (vI 4)) :=
  L.done mixed tabOk (n := 219) (ns := [1, 3, 1, 1, 1]) (tr := [.auto, .reg [], .dec true, .reg [(.row t_77 ((lcell ARat.cells) v))], .reg [.none, (.pv .nilI)], .reg [], .auto, .reg [.none, (.pv (vI deg))], .dec true, .reg []]) (cj (dltN_t h1) (cj (o_at (lcell ARat.cells) (Eq.refl (((t_77 : Nat) : Int) : Int)) h2) (cj h3 (cj h4 (cj (dlt_t h5) True.intro))))) (by kernel_rfl)
theorem l21 (l : ALaw) (t_77 : Nat) (v : List ARat) (deg : Int) {r : PV} (h1 : t_77 < l.pieces.length) (h2 : l.pieces[t_77]? = some v) (h3 : Contract prg 78 [(polyPV v)] .nilI) (h4 : Contract prg 157 [(polyPV v)] (vI deg)) (h5 : deg ≤ 8) (h6 : (t_77 + 1) < 9223372036854775808) (hL : Loop2 l (t_77 + 1) r) : Loop2 l t_77 r :=
  L.go mixed tabOk (n := 222) (ns := [1, 3, 1, 1, 1, 1]) (tr := [.auto, .reg [], .dec true, .reg [(.row t_77 ((lcell ARat.cells) v))], .reg [.none, (.pv .nilI)], .reg [], .auto, .reg [.none, (.pv (vI deg))], .dec false, .reg [(iI (((t_77 + 1) : Nat) : Int))], .keep [75, 76, 77]]) (cj (dltN_t h1) (cj (o_at (lcell ARat.cells) (Eq.refl (((t_77 : Nat) : Int) : Int)) h2) (cj h3 (cj h4 (cj (dlt_f h5) (cj (bs_addN h6) True.intro)))))) (by kernel_rfl) hL
theorem l22 (l : ALaw) (t_77 : Nat) (v : List ARat) (che : Int) (h1 : t_77 < l.pieces.length) (h2 : l.pieces[t_77]? = some v) (h3 : Contract prg 78 [(polyPV v)] (.iface 94 (vI che))) : Loop2 l t_77 (.iface 94 (vI che)) :=
  L.done mixed tabOk (n := 207) (ns := [1, 3, 1]) (tr := [.auto, .reg [], .dec true, .reg [(.row t_77 ((lcell ARat.cells) v))], .reg [.none, (.pv (.iface 94 (vI che)))], .reg [], .auto, .reg []]) (cj (dltN_t h1) (cj (o_at (lcell ARat.cells) (Eq.refl (((t_77 : Nat) : Int) : Int)) h2) (cj h3 True.intro))) (by kernel_rfl)
theorem l23 (l : ALaw) (t_77 : Nat) (h1 : l.pieces.length ≤ t_77) : Loop2 l t_77 .nilI :=
  L.done mixed tabOk (n := 186) (ns := [1]) (tr := [.auto, .reg [], .dec false, .reg []]) (cj (dltN_f h1) True.intro) (by kernel_rfl)
end law_Check
namespace linkworkref52_Derive
@[reducible] noncomputable def fn : Func := Tryz.f130
noncomputable def atK1 : List Itm := focus [0, 2, 0, 2, 0, 2, 0, 0, 2, 0, 0] [.code (bodyOf fn)]
def inv1 (i_4 : Nat) (l : ALaw) (site_28 : List (List ARat)) : St := ⟨[(1, (.ptr 1 0)), (2, (.ptr 2 0)), (3, (.ptr 3 0)), (4, (eI (i_4 : Int)))], [(1, (.lit [(.pv (polyPV l.breaks)), (.pv (lpv (lcell ARat.cells) l.pieces))])), (2, (.lit [(.pv (.list [])), (.pv (.list []))])), (3, (.lit [(.row 10 0 l.breaks.length 3), (.row 28 0 site_28.length 1)])), (10, (.pure ((l.breaks : List ARat).map ARat.cells).flatten)), (28, (.pure ((site_28 : List (List ARat)).map (lcell ARat.cells)).flatten))]⟩
@[reducible] noncomputable def Loop1 (i_4 : Nat) (l : ALaw) (site_28 : List (List ARat)) (r : PV) : Prop := L prg fn atK1 (inv1 i_4 l site_28) r
theorem e0 (l : ALaw) {r : PV} (h1 : (([] : List ARat) ++ l.breaks : List ARat).length * 56 ≤ 140737488355328) (hL : Loop1 0 l [] r) : Contract prg 130 [l.pv] r :=
  Contract.ofL Tryz.func130 (by kernel_rfl) (L.go mixed tabOk (n := 93) (ns := [6]) (tr := [.reg [], .reg [.nil], .adoptC 3 0 10 3, .adoptC 3 1 28 1, .reg [.none, .none, .none, .none, (.app (l.breaks : List ARat).length ((l.breaks : List ARat).map ARat.cells).flatten)], .reg [], .keep [1, 2, 3, 4], .ord [1, 2, 3, 10, 28]]) (cj (o_appL sz_ARat ([] : List ARat) (l.breaks : List ARat) 56 (Eq.refl ([] : List ARat).length) h1 rfl) True.intro) (by kernel_rfl) hL)
theorem l10 (i_4 : Nat) (l : ALaw) (site_28 : List (List ARat)) (v der : List ARat) {r : PV} (h1 : i_4 < l.pieces.length) (h2 : l.pieces[i_4]? = some v) (h3 : Contract prg 202 [(polyPV v)] (polyPV der)) (h4 : ((site_28 ++ [der]) : List (List ARat)).length * 24 ≤ 140737488355328) (h5 : (i_4 + 1) < 9223372036854775808) (hL : Loop1 (i_4 + 1) l (site_28 ++ [der]) r) : Loop1 i_4 l site_28 r :=
  L.go mixed tabOk (n := 126) (ns := [1, 1, 3, 1, 6, 1]) (tr := [.auto, .reg [.none, .none, .none, (iI (l.pieces.length : Int))], .dec true, dr 9 3 [.none, .none, .none, .none, .none, (.row i_4 ((lcell ARat.cells) v)), .none, (.pv (polyPV der)), .none, (.app ((site_28 ++ [der]) : List (List ARat)).length (((site_28 ++ [der]) : List (List ARat)).map (lcell ARat.cells)).flatten)], .reg [.none, (iI (((i_4 + 1) : Nat) : Int))], .keep [1, 2, 3, 4], .drop [27], .ord [1, 2, 3, 10, 28]]) (cj (o_len (lcell ARat.cells) l.pieces) (cj (dltN_t h1) (cj (o_at (lcell ARat.cells) (Eq.refl (((i_4 : Nat) : Int) : Int)) h2) (cj h3 (cj (o_appR (sz_l ARat.cells) (site_28 : List (List ARat)) ([der] : List (List ARat)) 24 (Eq.refl (site_28 : List (List ARat)).length) (Eq.refl ([der] : List (List ARat)).length) h4 rfl) (cj (bs_addN h5) True.intro)))))) (by kernel_rfl) hL
theorem l11 (i_4 : Nat) (l : ALaw) (site_28 : List (List ARat)) (h1 : l.pieces.length ≤ i_4) : Loop1 i_4 l site_28 ((⟨l.breaks, site_28⟩ : ALaw).pv) :=
  L.done mixed tabOk (n := 126) (ns := [1, 1, 3, 3]) (tr := [.auto, .reg [.none, .none, .none, (iI (l.pieces.length : Int))], .dec false, .frzC 3 0 ((l.breaks : List ARat).map ARat.cells), .frzC 3 1 ((site_28 : List (List ARat)).map (lcell ARat.cells)), .reg []]) (cj (o_len (lcell ARat.cells) l.pieces) (cj (dltN_f h1) (cj (o_frz sz_ARat (l.breaks : List ARat) (Eq.refl (l.breaks : List ARat).length)) (cj (o_frz (sz_l ARat.cells) (site_28 : List (List ARat)) (Eq.refl (site_28 : List (List ARat)).length)) True.intro)))) (by kernel_rfl)
end linkworkref52_Derive
namespace law_wrapped
theorem e0 (x : ARat) (flo who : AWhole) (fro sub : ARat) (h1 : Contract prg 208 [x.pv] flo.pv) (h2 : Contract prg 209 [] who.pv) (h3 : Contract prg 186 [flo.pv, who.pv] (.tup [fro.pv, .nilI])) (h4 : Contract prg 146 [x.pv, fro.pv] sub.pv) : Contract prg 142 [x.pv] (.tup [sub.pv, .nilI]) :=
  Contract.ofL Tryz.func142 (by kernel_rfl) (L.done mixed tabOk (n := 93) (ns := [1, 1, 1, 1]) (tr := [.reg [], .reg [.none, (.pv flo.pv), (.pv who.pv), (.pv (.tup [fro.pv, .nilI]))], .reg [], .auto, .reg [.none, .none, (.pv sub.pv)]]) (cj h1 (cj h2 (cj h3 (cj h4 True.intro)))) (by kernel_rfl))
end law_wrapped
namespace law_piece
@[reducible] noncomputable def fn : Func := Tryz.f147
noncomputable def atK1 : List Itm := focus [0, 2, 0, 2, 0, 0, 0] [.code (bodyOf fn)]
def inv1 (i_5 : Int) (l : ALaw) (x : ARat) : St := ⟨[(2, (.ptr 2 0)), (3, (.ptr 3 0)), (5, (eI i_5))], [(2, (.lit [(.pv (polyPV l.breaks)), (.pv (lpv (lcell ARat.cells) l.pieces))])), (3, (.lit [(eB x.neg), (.pv (wordsPV x.num)), (.pv (wordsPV x.den))]))]⟩
@[reducible] noncomputable def Loop1 (i_5 : Int) (l : ALaw) (x : ARat) (r : PV) : Prop := L prg fn atK1 (inv1 i_5 l x) r
theorem e0 (l : ALaw) (x : ARat) {r : PV} (h1 : InI64 ((l.breaks.length : Int) - 1)) (hL : Loop1 ((l.breaks.length : Int) - 1) l x r) : Contract prg 147 [l.pv, x.pv] r :=
  Contract.ofL Tryz.func147 (by kernel_rfl) (L.go mixed tabOk (n := 81) (ns := [1, 1]) (tr := [.reg [], .reg [.none, .none, (iI (l.breaks.length : Int)), (iI ((l.breaks.length : Int) - 1))], .keep [2, 3, 5], .ord [2, 3]]) (cj (o_len ARat.cells l.breaks) (cj (bs_sub h1) True.intro)) (by kernel_rfl) hL)
theorem l10 (i_5 : Int) (l : ALaw) (x : ARat) (k : Nat) (v : ARat) (cmp : Int) {r : PV} (h1 : i_5 = (k : Int)) (h2 : l.breaks[k]? = some v) (h3 : Contract prg 29 [v.pv, x.pv] (vI cmp)) (h4 : 0 < cmp) (h5 : InI64 (i_5 - 1)) (hL : Loop1 (i_5 - 1) l x r) : Loop1 i_5 l x r :=
  L.go mixed tabOk (n := 108) (ns := [3, 1, 1, 1]) (tr := [.auto, dr 8 0 [.none, .none, .none, (.row k (ARat.cells v)), .none, .none, (.pv (vI cmp))], .dec true, .reg [.none, (iI (i_5 - 1))], .keep [2, 3, 5]]) (cj (o_at ARat.cells h1 h2) (cj h3 (cj (dlt_t h4) (cj (bs_sub h5) True.intro)))) (by kernel_rfl) hL
theorem l11 (i_5 : Int) (l : ALaw) (x : ARat) (k : Nat) (v : ARat) (cmp : Int) (h1 : i_5 = (k : Int)) (h2 : l.breaks[k]? = some v) (h3 : Contract prg 29 [v.pv, x.pv] (vI cmp)) (h4 : cmp ≤ 0) : Loop1 i_5 l x (vI i_5) :=
  L.done mixed tabOk (n := 114) (ns := [3, 1, 1]) (tr := [.auto, dr 8 0 [.none, .none, .none, (.row k (ARat.cells v)), .none, .none, (.pv (vI cmp))], .dec false, .reg []]) (cj (o_at ARat.cells h1 h2) (cj h3 (cj (dlt_f h4) True.intro))) (by kernel_rfl)
end law_piece
namespace law_one
theorem e0 (of : ARat) (h1 : Contract prg 73 [(vI 1)] of.pv) : Contract prg 149 [] of.pv :=
  Contract.ofL Tryz.func149 (by kernel_rfl) (L.done mixed tabOk (n := 72) (ns := [1]) (tr := [.reg [], .reg [(.pv of.pv)]]) (cj h1 True.intro) (by kernel_rfl))
end law_one
namespace law_Derive
@[reducible] noncomputable def fn : Func := Tryz.f185
noncomputable def atK1 : List Itm := focus [0, 2, 0, 0, 2, 0, 2, 1, 2, 0, 2, 0, 0, 2, 0, 0] [.code (bodyOf fn)]
def inv1 (l : ALaw) (t_19 : Nat) (site_43 : List ARat) (site_49 : List (List ARat)) : St := ⟨[(1, (.ptr 1 0)), (2, (.ptr 2 0)), (5, (.ptr 5 0)), (17, (.pv (lpv (lcell ARat.cells) l.pieces))), (18, (eI (l.pieces.length : Int))), (19, (eI (t_19 : Int)))], [(1, (.lit [(.pv (polyPV l.breaks)), (.pv (lpv (lcell ARat.cells) l.pieces))])), (2, (.lit [(.pv (.list [])), (.pv (.list []))])), (5, (.lit [(.row 43 0 site_43.length 3), (.row 49 0 site_49.length 1)])), (43, (.pure ((site_43 : List ARat).map ARat.cells).flatten)), (49, (.pure ((site_49 : List (List ARat)).map (lcell ARat.cells)).flatten))]⟩
@[reducible] noncomputable def Loop1 (l : ALaw) (t_19 : Nat) (site_43 : List ARat) (site_49 : List (List ARat)) (r : PV) : Prop := L prg fn atK1 (inv1 l t_19 site_43 site_49) r
theorem e0 (l : ALaw) {r : PV} (h1 : Contract prg 114 [l.pv] .nilI) (hL : Loop1 l 0 [] [] r) : Contract prg 185 [l.pv] r :=
  Contract.ofL Tryz.func185 (by kernel_rfl) (L.go mixed tabOk (n := 108) (ns := [1, 1]) (tr := [.reg [], .reg [.none, (.pv .nilI)], .reg [], .auto, .reg [.nil], .adoptC 5 0 43 3, .adoptC 5 1 49 1, .reg [.none, .none, (iI (l.pieces.length : Int))], .keep [1, 2, 5, 17, 18, 19], .ord [1, 2, 5, 43, 49]]) (cj h1 (cj (o_len (lcell ARat.cells) l.pieces) True.intro)) (by kernel_rfl) hL)
theorem l10 (l : ALaw) (t_19 : Nat) (site_43 : List ARat) (site_49 : List (List ARat)) (v der : List ARat) (v1 add : ARat) {r : PV} (h1 : t_19 < l.pieces.length) (h2 : l.pieces[t_19]? = some v) (h3 : Contract prg 231 [(polyPV v)] (.tup [(polyPV der), .nilI])) (h4 : l.breaks[t_19]? = some v1) (h5 : Contract prg 63 [v1.pv, (⟨false, [], []⟩ : ARat).pv] add.pv) (h6 : ((site_43 ++ [add]) : List ARat).length * 56 ≤ 140737488355328) (h7 : ((site_49 ++ [der]) : List (List ARat)).length * 24 ≤ 140737488355328) (h8 : (t_19 + 1) < 9223372036854775808) (hL : Loop1 l (t_19 + 1) (site_43 ++ [add]) (site_49 ++ [der]) r) : Loop1 l t_19 site_43 site_49 r :=
  L.go mixed tabOk (n := 174) (ns := [1, 3, 1, 3, 1, 6, 6, 1]) (tr := [.auto, .reg [], .dec true, .reg [.none, (.row t_19 ((lcell ARat.cells) v))], .reg [.none, (.pv (.tup [(polyPV der), .nilI]))], .reg [], .auto, dr 10 3 [.none, .none, .none, .none, .none, (.row t_19 (ARat.cells v1)), .none, .none, (.pv add.pv), .none, (.app ((site_43 ++ [add]) : List ARat).length (((site_43 ++ [add]) : List ARat).map ARat.cells).flatten)], .reg [.none, .none, .none, .none, (.app ((site_49 ++ [der]) : List (List ARat)).length (((site_49 ++ [der]) : List (List ARat)).map (lcell ARat.cells)).flatten)], .reg [(iI (((t_19 + 1) : Nat) : Int))], .keep [1, 2, 5, 17, 18, 19], .drop [48, 42], .ord [1, 2, 5, 43, 49]]) (cj (dltN_t h1) (cj (o_at (lcell ARat.cells) (Eq.refl (((t_19 : Nat) : Int) : Int)) h2) (cj h3 (cj (o_at ARat.cells (Eq.refl (((t_19 : Nat) : Int) : Int)) h4) (cj h5 (cj (o_appR sz_ARat (site_43 : List ARat) ([add] : List ARat) 56 (Eq.refl (site_43 : List ARat).length) (Eq.refl ([add] : List ARat).length) h6 rfl) (cj (o_appR (sz_l ARat.cells) (site_49 : List (List ARat)) ([der] : List (List ARat)) 24 (Eq.refl (site_49 : List (List ARat)).length) (Eq.refl ([der] : List (List ARat)).length) h7 rfl) (cj (bs_addN h8) True.intro)))))))) (by kernel_rfl) hL
theorem l12 (l : ALaw) (t_19 : Nat) (site_43 : List ARat) (site_49 : List (List ARat)) (h1 : l.pieces.length ≤ t_19) : Loop1 l t_19 site_43 site_49 (.tup [(⟨site_43, site_49⟩ : ALaw).pv, .nilI]) :=
  L.done mixed tabOk (n := 141) (ns := [1, 3, 3]) (tr := [.auto, .reg [], .dec false, .frzC 5 0 ((site_43 : List ARat).map ARat.cells), .frzC 5 1 ((site_49 : List (List ARat)).map (lcell ARat.cells)), .reg []]) (cj (dltN_f h1) (cj (o_frz sz_ARat (site_43 : List ARat) (Eq.refl (site_43 : List ARat).length)) (cj (o_frz (sz_l ARat.cells) (site_49 : List (List ARat)) (Eq.refl (site_49 : List (List ARat)).length)) True.intro))) (by kernel_rfl)
end law_Derive
namespace linkworkref52_End
theorem e0 (l : ALaw) (i : Int) (k : Nat) (v : ARat) (h1 : InI64 (i + 1)) (h2 : (i + 1) < (l.breaks.length : Int)) (h3 : (i + 1) = (k : Int)) (h4 : l.breaks[k]? = some v) : Contract prg 201 [l.pv, (vI i)] v.pv :=
  Contract.ofL Tryz.func201 (by kernel_rfl) (L.done mixed tabOk (n := 84) (ns := [1, 1, 1, 1, 3]) (tr := [.reg [], .reg [.none, (iI (i + 1)), .none, .none, (iI (l.breaks.length : Int))], .dec true, .reg [.none, .none, .none, (iI (i + 1)), (.row k (ARat.cells v))]]) (cj (bs_add h1) (cj (o_len ARat.cells l.breaks) (cj (dlt_t h2) (cj (bs_add h1) (cj (o_at ARat.cells h3 h4) True.intro))))) (by kernel_rfl))
theorem e1 (l : ALaw) (i : Int) (of : ARat) (h1 : InI64 (i + 1)) (h2 : (l.breaks.length : Int) ≤ (i + 1)) (h3 : Contract prg 70 [(vI 1)] of.pv) : Contract prg 201 [l.pv, (vI i)] of.pv :=
  Contract.ofL Tryz.func201 (by kernel_rfl) (L.done mixed tabOk (n := 87) (ns := [1, 1, 1, 1]) (tr := [.reg [], .reg [.none, (iI (i + 1)), .none, .none, (iI (l.breaks.length : Int))], .dec false, .reg [(.pv of.pv)]]) (cj (bs_add h1) (cj (o_len ARat.cells l.breaks) (cj (dlt_f h2) (cj h3 True.intro)))) (by kernel_rfl))
end linkworkref52_End
namespace linkworkref52_derived
theorem e0 (p der : List ARat) (der1 : Int) (h1 : Contract prg 238 [(polyPV p)] (.tup [(polyPV der), (vI der1)])) : Contract prg 202 [(polyPV p)] (polyPV der) :=
  Contract.ofL Tryz.func202 (by kernel_rfl) (L.done mixed tabOk (n := 78) (ns := [1]) (tr := [.reg [], .reg [.none, (.pv (.tup [(polyPV der), (vI der1)]))], .reg []]) (cj h1 True.intro) (by kernel_rfl))
end linkworkref52_derived
namespace law_whole
theorem e0   : Contract prg 209 [] ((⟨false, [(1 : UInt32)]⟩ : AWhole).pv) :=
  Contract.ofL Tryz.func209 (by kernel_rfl) (L.done mixed tabOk (n := 72) (ns := [3]) (tr := [.reg [], .reg [(.slc 0 0 (([(1 : UInt32)] : List UInt32).map wordPV))]]) (cj (o_bs sz_word ([(1 : UInt32)] : List UInt32)) True.intro) (by kernel_rfl))
end law_whole
end Go.Proofs.YtbgkjomonebfcaaGreat.Sym.Path
namespace Go.Proofs.YtbgkjomonebfcaaGreat.Sym
open Go Path CInt
set_option linter.unusedVariables false
namespace CLw
theorem one : Contract prg 149 [] (mkR (1 : Int)).pv := law_one.e0 _ (CFr.Of 1 (by unfold InI64; omega))
theorem Check2 (l : ALaw) (hl : l.pieces.length < 4611686018427387904) (hf : ∀ p ∈ l.pieces, FitP 274877906944 p) : ∀ (j t : Nat), l.pieces.length - t = j → law_Check.Loop2 l t (errPV (errOf (chkP (l.pieces.drop t)))) := by
  intro j
  induction j with
  | zero =>
    intro t hj
    rw [List.drop_of_length_le (by omega)]
    exact law_Check.l23 l t (by omega)
  | succ j ih =>
    intro t hj
    obtain ⟨v, hv⟩ : ∃ v, l.pieces[t]? = some v := ⟨_, List.getElem?_eq_getElem (by omega)⟩
    have hvf := hf v (List.mem_of_getElem? hv)
    have hc := CPo.Check v hvf
    rw [drop_cons hv, chkP]
    by_cases h0 : chk v = 0
    · rw [decide_eq_false (by simpa using h0), cond_false]
      rw [h0] at hc
      have hd := poly_Degree.e0 v (by have := chk_len h0; unfold InI64; omega)
      by_cases h9 : 9 < v.length
      · rw [show Nat.blt 9 v.length = true from by simpa [Nat.blt_eq] using h9, cond_true]
        exact law_Check.l20 l t v _ (by omega) hv hc hd (by omega)
      · rw [show Nat.blt 9 v.length = false from by cases hb : Nat.blt 9 v.length with
          | false => rfl
          | true => exact absurd (by simpa [Nat.blt_eq] using hb) h9, cond_false]
        exact law_Check.l21 l t v _ (by omega) hv hc hd (by omega) (by omega) (ih (t + 1) (by omega))
    · rw [decide_eq_true h0, cond_true]
      rw [errOf_ne h0] at hc ⊢
      exact law_Check.l22 l t v _ (by omega) hv hc
theorem Check (l : ALaw) (hf : FitW 1073741824 l) : Contract prg 114 [l.pv] (errPV (errOf (chkLaw l))) := by
  unfold chkLaw
  by_cases h0 : l.breaks.length = 0
  · rw [if_pos (Or.inl h0)]; exact law_Check.e0 l h0
  by_cases h1 : l.breaks.length = l.pieces.length
  · rw [if_neg (by intro h; rcases h with h | h <;> omega)]
    by_cases h2 : 16 < l.breaks.length
    · rw [if_pos h2]; exact law_Check.e2 l h0 h1 h2
    · rw [if_neg h2]
      have hps : ∀ p ∈ l.pieces, FitP 274877906944 p := fun p hp a ha => ⟨by have := (hf.2 p hp a ha).1; omega, by have := (hf.2 p hp a ha).2; omega⟩
      have loop : ∀ (j t : Nat) (p : Option Rat), l.breaks.length - t = j → t ≤ l.breaks.length → (t = 0 → p = none) → (∀ k v, t = k + 1 → l.breaks[k]? = some v → p = some v.val) → law_Check.Loop1 l t (errPV (errOf (chkR p (l.breaks.drop t) l.pieces))) := by
        intro j
        induction j with
        | zero =>
          intro t p hj ht _ _
          rw [List.drop_of_length_le (by omega), chkR_nil]
          refine law_Check.l110 l t (by omega) ?_
          have := Check2 l (by omega) hps _ 0 rfl
          rwa [List.drop_zero] at this
        | succ j ih =>
          intro t p hj ht hp0 hp
          obtain ⟨v, hv⟩ : ∃ v, l.breaks[t]? = some v := ⟨_, List.getElem?_eq_getElem (by omega)⟩
          have hvf := hf.1 v (List.mem_of_getElem? hv)
          have hva := CFr.Valid v ⟨by omega, by omega⟩
          have hsg := CFr.Sign v ⟨by omega, by omega⟩
          have hone := one
          have hcm := CFr.Cmp v (mkR (1 : Int)) ⟨by omega, by omega⟩ ⟨by decide, by decide⟩
          rw [mkR_val, show ((1 : Int) : Rat) = 1 from rfl] at hcm
          rw [drop_cons hv]
          cases hvv : v.valid with
          | false =>
            rw [chkR_stop (chkB_out (outB_inv hvv)) (by omega)]
            exact law_Check.l10 l t v _ (by omega) hv hva hvv
          | true =>
            by_cases hs : v.val < 0
            · rw [chkR_stop (chkB_out (outB_lt hs)) (by omega)]
              exact law_Check.l11 l t v _ _ (by omega) hv hva hvv hsg (cmpR_lt.2 hs)
            · have hs' : 0 ≤ cmpR v.val 0 := cmpR_ge.2 (by grind)
              by_cases hc : 1 ≤ v.val
              · rw [chkR_stop (chkB_out (outB_ge hc)) (by omega)]
                exact law_Check.l12 l t v _ _ _ _ (by omega) hv hva hvv hsg hs' hone hcm (cmpR_ge.2 hc)
              · have ho := outB_no hvv hs hc
                have hc' : cmpR v.val 1 < 0 := cmpR_lt.2 (by grind)
                by_cases ht0 : t = 0
                · have := hp0 ht0
                  subst this
                  by_cases hz : v.val = 0
                  · rw [chkR_cons ho (by unfold badB; exact decide_eq_false (by simpa using hz))]
                    refine law_Check.l16 l t v _ _ _ _ _ (by omega) hv hva hvv hsg hs' hone hcm hc' ht0 hsg (cmpR_eq.2 hz) (by omega) (by omega) (ih (t + 1) _ (by omega) (by omega) (by omega) ?_)
                    intro k u hk hu
                    have : k = t := by omega
                    subst this
                    rw [hv] at hu; injection hu with hu; rw [hu]
                  · rw [chkR_stop (chkB_bad ho (by unfold badB; exact decide_eq_true hz)) (by omega)]
                    exact law_Check.l13 l t v _ _ _ _ _ (by omega) hv hva hvv hsg hs' hone hcm hc' ht0 hsg (fun e => hz (cmpR_eq.1 e))
                · obtain ⟨k, hk⟩ : ∃ k, t = k + 1 := ⟨t - 1, by omega⟩
                  obtain ⟨u, hu⟩ : ∃ u, l.breaks[k]? = some u := ⟨_, List.getElem?_eq_getElem (by omega)⟩
                  have := hp k u hk hu
                  subst this
                  have huf := hf.1 u (List.mem_of_getElem? hu)
                  have hcu := CFr.Cmp v u ⟨by omega, by omega⟩ ⟨by omega, by omega⟩
                  by_cases hz : v.val ≤ u.val
                  · rw [chkR_stop (chkB_bad ho (by unfold badB; exact decide_eq_true hz)) (by omega)]
                    exact law_Check.l17 l t v _ _ _ _ k u _ (by omega) hv hva hvv hsg hs' hone hcm hc' ht0 (by omega) (by unfold InI64; omega) (by omega) hu hcu (cmpR_le.2 hz)
                  · rw [chkR_cons ho (by unfold badB; exact decide_eq_false hz)]
                    refine law_Check.l18 l t v _ _ _ _ k u _ (by omega) hv hva hvv hsg hs' hone hcm hc' ht0 (by omega) (by unfold InI64; omega) (by omega) hu hcu (cmpR_gt.2 (by grind)) (by omega) (ih (t + 1) _ (by omega) (by omega) (by omega) ?_)
                    intro k' u' hk' hu'
                    have : k' = t := by omega
                    subst this
                    rw [hv] at hu'; injection hu' with hu'; rw [hu']
      refine law_Check.e3 l h0 h1 (by omega) ?_
      have := loop _ 0 none rfl (by omega) (fun _ => rfl) (fun k v h => by omega)
      rwa [List.drop_zero] at this
  · rw [if_pos (Or.inr h1)]; exact law_Check.e1 l h0 h1
theorem wrapped (x : ARat) (h : x.num.length ≤ 1073741824 ∧ x.den.length ≤ 1073741824) : Contract prg 142 [x.pv] (.tup [(mkR (frac x.val)).pv, .nilI]) := by
  obtain ⟨f1, f2⟩ := h
  have hh := ht_fit (k := 1073741824) f1 f2 (by omega)
  have hfl := CFr.Floor x ⟨by omega, by omega⟩
  have hw := wl_floor x.val
  have hfr := CFr.From (Sym.whole x.val.floor) (⟨false, [(1 : UInt32)]⟩ : AWhole) (show wl _ ≤ _ by omega) (by decide) (by decide)
  rw [whole_val, show Rat.divInt x.val.floor (⟨false, [(1 : UInt32)]⟩ : AWhole).val = (x.val.floor : Rat) from by rw [show (⟨false, [(1 : UInt32)]⟩ : AWhole).val = 1 from rfl, Rat.divInt_eq_div]; grind] at hfr
  have hi := ht_int x.val.floor
  have hs := CFr.Sub x (mkR (x.val.floor : Rat)) ⟨by omega, by omega⟩ (fit_mkR (by omega))
  rw [mkR_val] at hs
  exact law_wrapped.e0 x _ _ _ _ hfl law_whole.e0 hfr hs
theorem piece (l : ALaw) (x : ARat) (g : Good l) (hf : FitP 1073741824 l.breaks) (hx : x.num.length ≤ 1073741824 ∧ x.den.length ≤ 1073741824) (h0 : 0 ≤ x.val) : Contract prg 147 [l.pv, x.pv] (vI (pieceL (vals l.breaks) x.val : Nat)) := by
  have hlen : (vals l.breaks).length = l.breaks.length := by unfold vals; rw [List.length_map]
  have hle := g.le
  have hn0 := g.n0
  have loop : ∀ (n : Nat), n < l.breaks.length → (∀ b, (vals l.breaks)[n + 1]? = some b → x.val < b) → law_piece.Loop1 (n : Int) l x (vI (pieceL (vals l.breaks) x.val : Nat)) := by
    intro n
    induction n with
    | zero =>
      intro hn hup
      obtain ⟨v, hv⟩ : ∃ v, l.breaks[0]? = some v := ⟨_, List.getElem?_eq_getElem (by omega)⟩
      have hvf := hf v (List.mem_of_getElem? hv)
      have hc := CFr.Cmp v x ⟨by omega, by omega⟩ ⟨by omega, by omega⟩
      have e := g.first v hv
      have hp : pieceL (vals l.breaks) x.val = 0 := by
        refine pieceF_eq _ _ 0 (fun j b hj => by omega) (fun b hb => hup b ?_) (by omega)
        rw [List.getElem?_drop] at hb; rw [Nat.add_comm]; exact hb
      rw [hp]
      refine law_piece.l11 _ l x 0 v _ (by omega) hv hc (cmpR_le.2 (by grind))
    | succ n ih =>
      intro hn hup
      obtain ⟨v, hv⟩ : ∃ v, l.breaks[n + 1]? = some v := ⟨_, List.getElem?_eq_getElem (by omega)⟩
      have hvf := hf v (List.mem_of_getElem? hv)
      have hvv : (vals l.breaks)[n + 1]? = some v.val := by unfold vals; rw [List.getElem?_map, hv]; rfl
      have hc := CFr.Cmp v x ⟨by omega, by omega⟩ ⟨by omega, by omega⟩
      by_cases hle2 : v.val ≤ x.val
      · have hp : pieceL (vals l.breaks) x.val = n + 1 := by
          refine pieceF_eq _ _ (n + 1) (fun j b hj hb => ?_) (fun b hb => hup b ?_) (by rw [List.length_drop]; omega)
          · rw [List.getElem?_drop] at hb
            by_cases hjn : j = n
            · subst hjn
              rw [Nat.add_comm, hvv] at hb; injection hb with hb; rw [← hb]; exact hle2
            · have h1 : 1 + j < (vals l.breaks).length := (List.getElem?_eq_some_iff.1 hb).1
              have h2 : n + 1 < (vals l.breaks).length := by omega
              have := List.pairwise_iff_getElem.1 g.asc (1 + j) (n + 1) h1 h2 (by omega)
              rw [(List.getElem?_eq_some_iff.1 hb).2, (List.getElem?_eq_some_iff.1 hvv).2] at this
              grind
          · rw [List.getElem?_drop] at hb; rw [Nat.add_comm]; exact hb
        rw [hp]
        refine law_piece.l11 _ l x (n + 1) v _ (by omega) hv hc (cmpR_le.2 (by grind))
      · refine law_piece.l10 _ l x (n + 1) v _ (by omega) hv hc (cmpR_gt.2 (by grind)) (by unfold InI64; omega) ?_
        have := ih (by omega) (fun b hb => by rw [hvv] at hb; injection hb with hb; rw [← hb]; grind)
        rwa [show ((n + 1 : Nat) : Int) - 1 = (n : Int) from by omega]
  have := loop (l.breaks.length - 1) (by omega) (fun b hb => by
    rw [List.getElem?_eq_none (by omega)] at hb; cases hb)
  refine law_piece.e0 l x (by unfold InI64; omega) ?_
  rwa [show ((l.breaks.length - 1 : Nat) : Int) = (l.breaks.length : Int) - 1 from by omega] at this
theorem frac_nonneg (x : Rat) : 0 ≤ frac x := by
  have := Rat.floor_le (a := x)
  unfold frac
  grind
theorem At (l : ALaw) (x : ARat) (hc : chkLaw l = 0) (hf : FitW 1048576 l) (hv : x.valid = true) (hx : x.num.length ≤ 1048576 ∧ x.den.length ≤ 1048576) : Contract prg 107 [l.pv, x.pv] (.tup [(mkR (atW l x.val)).pv, .nilI]) := by
  have g := good_of hc
  have hk := Check l ⟨fun a ha => ⟨by have := (hf.1 a ha).1; omega, by have := (hf.1 a ha).2; omega⟩, fun p hp a ha => ⟨by have := (hf.2 p hp a ha).1; omega, by have := (hf.2 p hp a ha).2; omega⟩⟩
  rw [hc] at hk
  have hva := CFr.Valid x ⟨by omega, by omega⟩
  have hw := wrapped x ⟨by omega, by omega⟩
  have hxv := hv
  obtain ⟨f1, f2⟩ := hx
  have hh := ht_fit (k := 1048576) f1 f2 (by omega)
  have hfr := ht_frac hh
  have hxf := fit_mkRk (k := 2097154) (q := frac x.val) (by omega)
  have hn0 := g.n0
  have hlen := g.len
  have hle := g.le
  have hlen2 : (vals l.breaks).length = l.breaks.length := by unfold vals; rw [List.length_map]
  have hlt := pieceL_lt (bs := vals l.breaks) (by omega) (frac x.val)
  obtain ⟨v, hv⟩ : ∃ v, l.breaks[pieceL (vals l.breaks) (frac x.val)]? = some v := ⟨_, List.getElem?_eq_getElem (by omega)⟩
  obtain ⟨p, hp⟩ : ∃ p, l.pieces[pieceL (vals l.breaks) (frac x.val)]? = some p := ⟨_, List.getElem?_eq_getElem (by omega)⟩
  have hvf := hf.1 v (List.mem_of_getElem? hv)
  have hpf := hf.2 p (List.mem_of_getElem? hp)
  have hvh := ht_fit hvf.1 hvf.2 (by omega)
  obtain ⟨hpc, hpl⟩ := g.ps p (List.mem_of_getElem? hp)
  have hsub := CFr.Sub (mkR (frac x.val)) v ⟨by omega, by omega⟩ ⟨by omega, by omega⟩
  rw [mkR_val] at hsub
  have hsf := fit_mkRk (k := 1073741824) (q := frac x.val - v.val) (by have := ht_sub (frac x.val) v.val; omega)
  have e : atW l x.val = evalL (vals p) (frac x.val - v.val) := by unfold atW; rw [List.getD_eq_getElem?_getD, List.getD_eq_getElem?_getD, hv, hp]; rfl
  rw [e]
  have hpi := piece l (mkR (frac x.val)) g (fun a ha => ⟨by have := (hf.1 a ha).1; omega, by have := (hf.1 a ha).2; omega⟩) ⟨by omega, by omega⟩ (by rw [mkR_val]; exact frac_nonneg _)
  rw [mkR_val] at hpi
  have hev := CPo.Eval p (mkR (frac x.val - v.val)) hpc (fun a ha => ⟨by have := (hpf a ha).1; omega, by have := (hpf a ha).2; omega⟩) hsf
  rw [mkR_val] at hev
  exact law_At.e1 l x _ _ _ _ p _ v _ _ none hk hva hxv hw hpi rfl hp rfl hv hsub hev
end CLw
end Go.Proofs.YtbgkjomonebfcaaGreat.Sym
namespace Go.Proofs.YtbgkjomonebfcaaGreat.Sym
open Go Path CInt
set_option linter.unusedVariables false
namespace CRl
theorem Check2 (l : ALaw) (hl : l.pieces.length < 4611686018427387904) (hf : ∀ p ∈ l.pieces, FitP 274877906944 p) : ∀ (j t : Nat), l.pieces.length - t = j → linkworkref52_Check.Loop2 t l (vI (chkP (l.pieces.drop t))) := by
  intro j
  induction j with
  | zero =>
    intro t hj
    rw [List.drop_of_length_le (by omega)]
    exact linkworkref52_Check.l23 t l (by omega)
  | succ j ih =>
    intro t hj
    obtain ⟨v, hv⟩ : ∃ v, l.pieces[t]? = some v := ⟨_, List.getElem?_eq_getElem (by omega)⟩
    have hvf := hf v (List.mem_of_getElem? hv)
    have hc := CRe.Check v hvf
    rw [drop_cons hv, chkP]
    by_cases h0 : chk v = 0
    · rw [decide_eq_false (by simpa using h0), cond_false]
      by_cases h9 : 9 < v.length
      · rw [show Nat.blt 9 v.length = true from by simpa [Nat.blt_eq] using h9, cond_true]
        exact linkworkref52_Check.l21 t l v _ (by omega) hv hc h0 h9
      · rw [show Nat.blt 9 v.length = false from by cases hb : Nat.blt 9 v.length with
          | false => rfl
          | true => exact absurd (by simpa [Nat.blt_eq] using hb) h9, cond_false]
        exact linkworkref52_Check.l22 t l v _ (by omega) hv hc h0 (by omega) (by omega) (ih (t + 1) (by omega))
    · rw [decide_eq_true h0, cond_true]
      exact linkworkref52_Check.l20 t l v _ (by omega) hv hc h0
theorem Check (l : ALaw) (hf : FitW 1073741824 l) : Contract prg 68 [l.pv] (vI (chkLaw l)) := by
  unfold chkLaw
  by_cases h0 : l.breaks.length = 0
  · rw [if_pos (Or.inl h0)]; exact linkworkref52_Check.e0 l h0
  by_cases h1 : l.breaks.length = l.pieces.length
  · rw [if_neg (by intro h; rcases h with h | h <;> omega)]
    by_cases h2 : 16 < l.breaks.length
    · rw [if_pos h2]; exact linkworkref52_Check.e2 l h0 h1 h2
    · rw [if_neg h2]
      have hps : ∀ p ∈ l.pieces, FitP 274877906944 p := fun p hp a ha => ⟨by have := (hf.2 p hp a ha).1; omega, by have := (hf.2 p hp a ha).2; omega⟩
      have loop : ∀ (j t : Nat) (p : Option Rat), l.breaks.length - t = j → t ≤ l.breaks.length → (t = 0 → p = none) → (∀ k v, t = k + 1 → l.breaks[k]? = some v → p = some v.val) → linkworkref52_Check.Loop1 t l (vI (chkR p (l.breaks.drop t) l.pieces)) := by
        intro j
        induction j with
        | zero =>
          intro t p hj ht _ _
          rw [List.drop_of_length_le (by omega), chkR_nil]
          refine linkworkref52_Check.l110 t l (by omega) ?_
          have := Check2 l (by omega) hps _ 0 rfl
          rwa [List.drop_zero] at this
        | succ j ih =>
          intro t p hj ht hp0 hp
          obtain ⟨v, hv⟩ : ∃ v, l.breaks[t]? = some v := ⟨_, List.getElem?_eq_getElem (by omega)⟩
          have hvf := hf.1 v (List.mem_of_getElem? hv)
          have hva := CRb.Valid v ⟨by omega, by omega⟩
          have hsg := CRb.Sign v ⟨by omega, by omega⟩
          have hone := (CRb.Of 1 (by unfold InI64; omega))
          have hcm := CRb.Cmp v (mkR (1 : Int)) ⟨by omega, by omega⟩ ⟨by decide, by decide⟩
          rw [mkR_val, show ((1 : Int) : Rat) = 1 from rfl] at hcm
          rw [drop_cons hv]
          cases hvv : v.valid with
          | false =>
            rw [chkR_stop (chkB_out (outB_inv hvv)) (by omega)]
            exact linkworkref52_Check.l10 t l v _ (by omega) hv hva hvv
          | true =>
            by_cases hs : v.val < 0
            · rw [chkR_stop (chkB_out (outB_lt hs)) (by omega)]
              exact linkworkref52_Check.l11 t l v _ _ (by omega) hv hva hvv hsg (cmpR_lt.2 hs)
            · have hs' : 0 ≤ cmpR v.val 0 := cmpR_ge.2 (by grind)
              by_cases hc : 1 ≤ v.val
              · rw [chkR_stop (chkB_out (outB_ge hc)) (by omega)]
                exact linkworkref52_Check.l12 t l v _ _ _ _ (by omega) hv hva hvv hsg hs' hone hcm (cmpR_ge.2 hc)
              · have ho := outB_no hvv hs hc
                have hc' : cmpR v.val 1 < 0 := cmpR_lt.2 (by grind)
                by_cases ht0 : t = 0
                · have := hp0 ht0
                  subst this
                  by_cases hz : v.val = 0
                  · rw [chkR_cons ho (by unfold badB; exact decide_eq_false (by simpa using hz))]
                    refine linkworkref52_Check.l16 t l v _ _ _ _ _ (by omega) hv hva hvv hsg hs' hone hcm hc' ht0 hsg (cmpR_eq.2 hz) (by omega) (by omega) (ih (t + 1) _ (by omega) (by omega) (by omega) ?_)
                    intro k u hk hu
                    have : k = t := by omega
                    subst this
                    rw [hv] at hu; injection hu with hu; rw [hu]
                  · rw [chkR_stop (chkB_bad ho (by unfold badB; exact decide_eq_true hz)) (by omega)]
                    exact linkworkref52_Check.l13 t l v _ _ _ _ _ (by omega) hv hva hvv hsg hs' hone hcm hc' ht0 hsg (fun e => hz (cmpR_eq.1 e))
                · obtain ⟨k, hk⟩ : ∃ k, t = k + 1 := ⟨t - 1, by omega⟩
                  obtain ⟨u, hu⟩ : ∃ u, l.breaks[k]? = some u := ⟨_, List.getElem?_eq_getElem (by omega)⟩
                  have := hp k u hk hu
                  subst this
                  have huf := hf.1 u (List.mem_of_getElem? hu)
                  have hcu := CRb.Cmp v u ⟨by omega, by omega⟩ ⟨by omega, by omega⟩
                  by_cases hz : v.val ≤ u.val
                  · rw [chkR_stop (chkB_bad ho (by unfold badB; exact decide_eq_true hz)) (by omega)]
                    exact linkworkref52_Check.l17 t l v _ _ _ _ k u _ (by omega) hv hva hvv hsg hs' hone hcm hc' ht0 (by omega) (by unfold InI64; omega) (by omega) hu hcu (cmpR_le.2 hz)
                  · rw [chkR_cons ho (by unfold badB; exact decide_eq_false hz)]
                    refine linkworkref52_Check.l18 t l v _ _ _ _ k u _ (by omega) hv hva hvv hsg hs' hone hcm hc' ht0 (by omega) (by unfold InI64; omega) (by omega) hu hcu (cmpR_gt.2 (by grind)) (by omega) (ih (t + 1) _ (by omega) (by omega) (by omega) ?_)
                    intro k' u' hk' hu'
                    have : k' = t := by omega
                    subst this
                    rw [hv] at hu'; injection hu' with hu'; rw [hu']
      refine linkworkref52_Check.e3 l h0 h1 (by omega) ?_
      have := loop _ 0 none rfl (by omega) (fun _ => rfl) (fun k v h => by omega)
      rwa [List.drop_zero] at this
  · rw [if_pos (Or.inr h1)]; exact linkworkref52_Check.e1 l h0 h1
theorem End (l : ALaw) (i : Nat) (hl : l.breaks.length ≤ 1073741824) (hi : i < l.breaks.length) (hv : l.breaks.all ARat.valid = true) : Contract prg 201 [l.pv, vI (i : Int)] (mkR (endW l i)).pv := by
  unfold endW
  cases h : l.breaks[i + 1]? with
  | some v =>
    have h1 := (List.getElem?_eq_some_iff.1 h).1
    show Contract prg _ _ (mkR v.val).pv
    rw [mkR_of (List.all_eq_true.1 hv v (List.mem_of_getElem? h))]
    exact linkworkref52_End.e0 l i (i + 1) v (by unfold InI64; omega) (by omega) (by omega) h
  | none =>
    have h1 := List.getElem?_eq_none_iff.1 h
    exact linkworkref52_End.e1 l i _ (by unfold InI64; omega) (by omega) (CRb.Of 1 (by unfold InI64; omega))
end CRl
end Go.Proofs.YtbgkjomonebfcaaGreat.Sym
namespace Go.Proofs.YtbgkjomonebfcaaGreat.Sym
open Go Path CInt
set_option linter.unusedVariables false
theorem drop_take_map {α β : Type} {l : List α} {t : Nat} {v : α} (f : α → β) (h : l[t]? = some v) : (l.take (t + 1)).map f = (l.take t).map f ++ [f v] := by
  rw [List.take_add_one, h, List.map_append]; rfl
namespace CLw
theorem Derive (l : ALaw) (hc : chkLaw l = 0) (hf : FitW 1073741824 l) : Contract prg 185 [l.pv] (.tup [(deriveW l).pv, .nilI]) := by
  have g := good_of hc
  have hk := Check l hf
  rw [hc] at hk
  have hle := g.le
  have hlen := g.len
  have loop : ∀ (j t : Nat) (sb : List ARat) (sp : List (List ARat)), l.pieces.length - t = j → t ≤ l.pieces.length → sb = (l.breaks.take t).map (fun a => mkR a.val) → sp = (l.pieces.take t).map (fun p => (deriveL (vals p)).map mkR) → law_Derive.Loop1 l t sb sp (.tup [(deriveW l).pv, .nilI]) := by
    intro j
    induction j with
    | zero =>
      intro t sb sp hj ht hb hp
      rw [List.take_of_length_le (by omega)] at hb hp
      have e : deriveW l = ⟨sb, sp⟩ := by
        unfold deriveW vals
        rw [hb, hp, List.map_map]; rfl
      rw [e]
      exact law_Derive.l12 l t sb sp (by omega)
    | succ j ih =>
      intro t sb sp hj ht hb hp
      obtain ⟨v, hv⟩ : ∃ v, l.pieces[t]? = some v := ⟨_, List.getElem?_eq_getElem (by omega)⟩
      obtain ⟨b, hb'⟩ : ∃ b, l.breaks[t]? = some b := ⟨_, List.getElem?_eq_getElem (by omega)⟩
      have hvf := hf.2 v (List.mem_of_getElem? hv)
      have hbf := hf.1 b (List.mem_of_getElem? hb')
      have hd := CPo.Derive v (g.ps v (List.mem_of_getElem? hv)).1 (fun a ha => ⟨by have := (hvf a ha).1; omega, by have := (hvf a ha).2; omega⟩)
      have ha := CPo.addZ b ⟨by omega, by omega⟩
      have h1 : sb.length = t := by rw [hb, List.length_map, List.length_take]; omega
      have h2 : sp.length = t := by rw [hp, List.length_map, List.length_take]; omega
      refine law_Derive.l10 l t sb sp v _ b _ (by omega) hv hd hb' ha (by simp; omega) (by simp; omega) (by omega) (ih (t + 1) _ _ (by omega) (by omega) ?_ ?_)
      · rw [drop_take_map _ hb', hb]
      · rw [drop_take_map _ hv, hp]
  exact law_Derive.e0 l hk (loop _ 0 [] [] rfl (by omega) rfl rfl)
end CLw
namespace CRl
theorem derived (p : List ARat) (hc : chk p = 0) (hf : FitP 137438953472 p) : Contract prg 202 [polyPV p] (polyPV ((deriveL (vals p)).map mkR)) :=
  linkworkref52_derived.e0 p _ _ (CRe.Derive p hc hf)
theorem Derive (l : ALaw) (g : Good l) (hf : FitW 1073741824 l) : Contract prg 130 [l.pv] (deriveW l).pv := by
  have hle := g.le
  have hlen := g.len
  have loop : ∀ (j t : Nat) (sp : List (List ARat)), l.pieces.length - t = j → t ≤ l.pieces.length → sp = (l.pieces.take t).map (fun p => (deriveL (vals p)).map mkR) → linkworkref52_Derive.Loop1 t l sp (deriveW l).pv := by
    intro j
    induction j with
    | zero =>
      intro t sp hj ht hp
      rw [List.take_of_length_le (by omega)] at hp
      have e : deriveW l = ⟨l.breaks, sp⟩ := by
        unfold deriveW
        rw [vals_of g.valid, hp]
      rw [e]
      exact linkworkref52_Derive.l11 t l sp (by omega)
    | succ j ih =>
      intro t sp hj ht hp
      obtain ⟨v, hv⟩ : ∃ v, l.pieces[t]? = some v := ⟨_, List.getElem?_eq_getElem (by omega)⟩
      have hvf := hf.2 v (List.mem_of_getElem? hv)
      have hd := derived v (g.ps v (List.mem_of_getElem? hv)).1 (fun a ha => ⟨by have := (hvf a ha).1; omega, by have := (hvf a ha).2; omega⟩)
      have h2 : sp.length = t := by rw [hp, List.length_map, List.length_take]; omega
      refine linkworkref52_Derive.l10 t l sp v _ (by omega) hv hd (by simp; omega) (by omega) (ih (t + 1) _ (by omega) (by omega) ?_)
      rw [drop_take_map _ hv, hp]
  exact linkworkref52_Derive.e0 l (by simp; omega) (loop _ 0 [] rfl (by omega) rfl)
end CRl
end Go.Proofs.YtbgkjomonebfcaaGreat.Sym
namespace Go.Proofs.YtbgkjomonebfcaaGreat.Sym
open Go Path CInt
set_option linter.unusedVariables false
theorem chkP_of : ∀ {ps : List (List ARat)}, (∀ p ∈ ps, chk p = 0 ∧ p.length ≤ 9) → chkP ps = 0
  | [], _ => rfl
  | a :: r, h => by
    obtain ⟨h1, h2⟩ := h a (List.mem_cons_self ..)
    rw [chkP, h1, show decide ((0 : Int) ≠ 0) = false from rfl, cond_false]
    rw [show Nat.blt 9 a.length = false from by
      cases hb : Nat.blt 9 a.length with
      | false => rfl
      | true => have : 9 < a.length := by simpa [Nat.blt_eq] using hb
                omega, cond_false]
    exact chkP_of (fun p hp => h p (List.mem_cons_of_mem _ hp))
theorem chkB_zero {l : ALaw} (h : chkLaw l = 0) : chkB none l.breaks = 0 := by
  unfold chkLaw at h
  split at h
  · cases h
  · split at h
    · cases h
    · unfold chkR at h
      refine Classical.byContradiction fun hb => ?_
      rw [decide_eq_true hb, cond_true] at h
      exact hb h
theorem chk_derive {l : ALaw} (h : chkLaw l = 0) : chkLaw (deriveW l) = 0 := by
  have g := good_of h
  have hb := chkB_zero h
  have e : (deriveW l).breaks = l.breaks := vals_of g.valid
  have hlen := g.len
  have hn0 := g.n0
  have hle := g.le
  have hp : (deriveW l).pieces.length = l.pieces.length := by unfold deriveW; simp
  unfold chkLaw
  rw [if_neg (by rw [e, hp]; omega), if_neg (by rw [e]; omega)]
  unfold chkR
  rw [e, hb]
  refine chkP_of (fun p hp => ?_)
  unfold deriveW at hp
  obtain ⟨q, hq, rfl⟩ := List.mem_map.1 hp
  have h9 := (g.ps q hq).2
  have hd := len_deriveL (vals q)
  have hv : (vals q).length = q.length := by unfold vals; rw [List.length_map]
  exact ⟨chk_map (lastZ_deriveL _) (by omega), by rw [List.length_map]; omega⟩
theorem fitW_derive {l : ALaw} {k : Nat} (g : Good l) (hk : 1 ≤ k) (h : FitW k l) : FitW (k + 2) (deriveW l) := by
  have e : (deriveW l).breaks = l.breaks := vals_of g.valid
  constructor
  · rw [e]; exact fun a ha => ⟨by have := (h.1 a ha).1; omega, by have := (h.1 a ha).2; omega⟩
  · intro p hp
    unfold deriveW at hp
    obtain ⟨q, hq, rfl⟩ := List.mem_map.1 hp
    have h9 := (g.ps q hq).2
    exact fit_mapk (fl_deriveL (by unfold vals; rw [List.length_map]; omega) (fl_vals (h.2 q hq) hk))
end Go.Proofs.YtbgkjomonebfcaaGreat.Sym
namespace Go.Proofs.YtbgkjomonebfcaaGreat.Sym
open Go Path CInt
set_option linter.unusedVariables false
def mkG (a b : Rat) : ARange := ⟨mkR a, mkR b⟩
def ARange.ok (r : ARange) : Bool := r.lo.valid && (r.hi.valid && decide (r.lo.val ≤ r.hi.val))
def loG (r : ARange) : Rat := bif r.ok then r.lo.val else 0
def hiG (r : ARange) : Rat := bif r.ok then r.hi.val else 0
theorem ok_parts {r : ARange} (h : r.ok = true) : r.lo.valid = true ∧ r.hi.valid = true ∧ r.lo.val ≤ r.hi.val := by
  unfold ARange.ok at h
  simp only [Bool.and_eq_true, decide_eq_true_eq] at h
  exact h
theorem ok_mkG {a b : Rat} (h : a ≤ b) : (mkG a b).ok = true := by
  unfold ARange.ok mkG
  simp only [mkR_valid, mkR_val, decide_eq_true h, Bool.and_self]
theorem loG_mk {a b : Rat} (h : a ≤ b) : loG (mkG a b) = a := by unfold loG; rw [ok_mkG h, cond_true]; exact mkR_val a
theorem hiG_mk {a b : Rat} (h : a ≤ b) : hiG (mkG a b) = b := by unfold hiG; rw [ok_mkG h, cond_true]; exact mkR_val b
theorem mkG_of {r : ARange} (h : r.ok = true) : mkG (loG r) (hiG r) = r := by
  obtain ⟨h1, h2, h3⟩ := ok_parts h
  unfold mkG loG hiG
  rw [h, cond_true, cond_true, mkR_of h1, mkR_of h2]
theorem mkG_not {r : ARange} (h : r.ok = false) : mkG (loG r) (hiG r) = ⟨⟨false, [], []⟩, ⟨false, [], []⟩⟩ := by
  unfold mkG loG hiG
  rw [h]; rfl
abbrev FitG (k : Nat) (r : ARange) : Prop := (r.lo.num.length ≤ k ∧ r.lo.den.length ≤ k) ∧ (r.hi.num.length ≤ k ∧ r.hi.den.length ≤ k)
theorem fit_mkG {a b : Rat} {k : Nat} (ha : ht a ≤ k) (hb : ht b ≤ k) : FitG k (mkG a b) := ⟨fit_mkRk ha, fit_mkRk hb⟩
theorem ht_loG {r : ARange} {k : Nat} (h : FitG k r) (hk : 1 ≤ k) : ht (loG r) ≤ k := by
  unfold loG
  cases r.ok with
  | true => exact ht_fit h.1.1 h.1.2 hk
  | false => exact Nat.le_trans (Nat.le_of_eq ht_zero) hk
theorem ht_hiG {r : ARange} {k : Nat} (h : FitG k r) (hk : 1 ≤ k) : ht (hiG r) ≤ k := by
  unfold hiG
  cases r.ok with
  | true => exact ht_fit h.2.1 h.2.2 hk
  | false => exact Nat.le_trans (Nat.le_of_eq ht_zero) hk
namespace CIv
theorem Valid (r : ARange) (h : FitG 68719476736 r) : Contract prg 155 [r.pv] (vB r.ok) := by
  have h1 := CFr.Valid r.lo ⟨by omega, by omega⟩
  have h2 := CFr.Valid r.hi ⟨by omega, by omega⟩
  have h3 := CFr.Cmp r.lo r.hi ⟨by omega, by omega⟩ ⟨by omega, by omega⟩
  unfold ARange.ok
  cases hv : r.lo.valid with
  | false => exact interval_Valid.e2 r _ h1 hv
  | true =>
    cases hw : r.hi.valid with
    | false => exact interval_Valid.e1 r _ _ h1 hv h2 hw
    | true =>
      have := interval_Valid.e0 r _ _ _ h1 hv h2 hw h3
      rwa [show decide (cmpR r.lo.val r.hi.val ≤ 0) = decide (r.lo.val ≤ r.hi.val) from decide_eq_decide.2 cmpR_le] at this
theorem clean (r : ARange) (h : FitG 68719476736 r) : Contract prg 137 [r.pv] (mkG (loG r) (hiG r)).pv := by
  have hv := Valid r h
  cases hk : r.ok with
  | false => rw [mkG_not hk]; exact interval_clean.e0 r _ hv hk
  | true =>
    obtain ⟨h1, h2, h3⟩ := ok_parts hk
    have := interval_clean.e1 r _ _ _ hv hk (CPo.addZ r.lo ⟨by omega, by omega⟩) (CPo.addZ r.hi ⟨by omega, by omega⟩)
    rw [mkR_of h1, mkR_of h2] at this
    rw [mkG_of hk]; exact this
theorem Point (x : Rat) (hx : ht x ≤ 68719476736) : Contract prg 189 [(mkR x).pv] (mkG x x).pv := interval_Point.e0 _ _ _ (QF.addZ x hx) (QF.addZ x hx)
theorem Hull (r s : ARange) (h : FitG 68719476736 r) (h' : FitG 68719476736 s) : Contract prg 188 [r.pv, s.pv] (mkG (minR (loG r) (loG s)) (maxR (hiG r) (hiG s))).pv :=
  interval_Hull.e0 r s _ _ _ _ (clean r h) (clean s h') (QF.Min _ _ (ht_loG h (by omega)) (ht_loG h' (by omega))) (QF.Max _ _ (ht_hiG h (by omega)) (ht_hiG h' (by omega)))
end CIv
end Go.Proofs.YtbgkjomonebfcaaGreat.Sym

namespace Go.Proofs.YtbgkjomonebfcaaGreat.Sym
open Go Path CInt
set_option linter.unusedVariables false
def brkW (l : ALaw) (i : Nat) : Rat := match l.breaks[i]? with
  | some b => b.val
  | none => 0
def pcW (l : ALaw) (i : Nat) : List Rat := match l.pieces[i]? with
  | some p => vals p
  | none => []
def lenW (l : ALaw) (i : Nat) : Rat := endW l i - brkW l i
theorem brkW_of {l : ALaw} {i : Nat} {b : ARat} (h : l.breaks[i]? = some b) : brkW l i = b.val := by unfold brkW; rw [h]
theorem pcW_of {l : ALaw} {i : Nat} {p : List ARat} (h : l.pieces[i]? = some p) : pcW l i = vals p := by unfold pcW; rw [h]
theorem ht_endW {l : ALaw} {k : Nat} (hf : FitW k l) (hk : 1 ≤ k) (i : Nat) : ht (endW l i) ≤ k := by
  unfold endW
  cases h : l.breaks[i + 1]? with
  | some v => have hv := hf.1 v (List.mem_of_getElem? h); exact ht_fit hv.1 hv.2 hk
  | none => exact Nat.le_trans (show ht ((1 : Int) : Rat) ≤ 1 from by decide) hk
theorem ht_brkW {l : ALaw} {k : Nat} (hf : FitW k l) (hk : 1 ≤ k) (i : Nat) : ht (brkW l i) ≤ k := by
  unfold brkW
  cases h : l.breaks[i]? with
  | some v => have hv := hf.1 v (List.mem_of_getElem? h); exact ht_fit hv.1 hv.2 hk
  | none => exact Nat.le_trans (Nat.le_of_eq ht_zero) hk
theorem ht_lenW {l : ALaw} {k : Nat} (hf : FitW k l) (hk : 1 ≤ k) (i : Nat) : ht (lenW l i) ≤ 2 * k + 1 := by
  have h1 := ht_endW hf hk i
  have h2 := ht_brkW hf hk i
  have h3 := ht_sub (endW l i) (brkW l i)
  unfold lenW; omega
theorem fl_pcW {l : ALaw} {k : Nat} (hf : FitW k l) (hk : 1 ≤ k) (i : Nat) : Fl k (pcW l i) := by
  unfold pcW
  cases h : l.pieces[i]? with
  | some p => exact fl_vals (hf.2 p (List.mem_of_getElem? h)) hk
  | none => exact fun x hx => by cases hx
theorem Good.at {l : ALaw} (g : Good l) {t : Nat} (h : t < l.pieces.length) : ∃ b p, l.breaks[t]? = some b ∧ l.pieces[t]? = some p ∧ b = mkR (brkW l t) ∧ p = (pcW l t).map mkR ∧ chk p = 0 ∧ p.length ≤ 9 := by
  have hlen := g.len
  obtain ⟨b, hb⟩ : ∃ b, l.breaks[t]? = some b := ⟨_, List.getElem?_eq_getElem (by omega)⟩
  obtain ⟨p, hp⟩ : ∃ p, l.pieces[t]? = some p := ⟨_, List.getElem?_eq_getElem h⟩
  obtain ⟨h1, h2⟩ := g.ps p (List.mem_of_getElem? hp)
  refine ⟨b, p, hb, hp, ?_, ?_, h1, h2⟩
  · rw [brkW_of hb, mkR_of (List.all_eq_true.1 g.valid b (List.mem_of_getElem? hb))]
  · rw [pcW_of hp, vals_of (chk_valid h1)]
theorem pcW_len {l : ALaw} (g : Good l) (t : Nat) : (pcW l t).length ≤ 9 := by
  unfold pcW
  cases h : l.pieces[t]? with
  | some p => have := (g.ps p (List.mem_of_getElem? h)).2; unfold vals; rw [List.length_map]; exact this
  | none => simp
theorem asc_get {q : List Rat} (h : q.Pairwise (· < ·)) {i j : Nat} {x y : Rat} (hi : q[i]? = some x) (hj : q[j]? = some y) (hij : i < j) : x < y := by
  obtain ⟨a1, a2⟩ := List.getElem?_eq_some_iff.1 hi
  obtain ⟨b1, b2⟩ := List.getElem?_eq_some_iff.1 hj
  have := List.pairwise_iff_getElem.1 h i j a1 b1 hij
  rwa [a2, b2] at this
theorem endW_gt {l : ALaw} (g : Good l) {t : Nat} (h : t < l.breaks.length) : brkW l t < endW l t := by
  obtain ⟨b, hb⟩ : ∃ b, l.breaks[t]? = some b := ⟨_, List.getElem?_eq_getElem h⟩
  rw [brkW_of hb]
  unfold endW
  cases h2 : l.breaks[t + 1]? with
  | none => have := (g.unit b (List.mem_of_getElem? hb)).2; show b.val < ((1 : Int) : Rat); exact this
  | some c =>
    have hv1 : (vals l.breaks)[t]? = some b.val := by unfold vals; rw [List.getElem?_map, hb]; rfl
    have hv2 : (vals l.breaks)[t + 1]? = some c.val := by unfold vals; rw [List.getElem?_map, h2]; rfl
    exact asc_get g.asc hv1 hv2 (Nat.lt_succ_self t)
theorem lenW_pos {l : ALaw} (g : Good l) {t : Nat} (h : t < l.breaks.length) : 0 < lenW l t := by
  have := endW_gt g h
  unfold lenW; grind
end Go.Proofs.YtbgkjomonebfcaaGreat.Sym

namespace Go.Proofs.YtbgkjomonebfcaaGreat.Sym
open Go Path CInt
set_option linter.unusedVariables false
theorem atW_eq {l : ALaw} (x : Rat) : atW l x = evalL (pcW l (pieceL (vals l.breaks) (frac x))) (frac x - brkW l (pieceL (vals l.breaks) (frac x))) := by
  unfold atW pcW brkW
  rw [List.getD_eq_getElem?_getD, List.getD_eq_getElem?_getD]
  cases l.pieces[pieceL (vals l.breaks) (frac x)]? <;> cases l.breaks[pieceL (vals l.breaks) (frac x)]? <;> rfl
theorem deriveW_pc (l : ALaw) (i : Nat) : pcW (deriveW l) i = deriveL (pcW l i) := by
  unfold pcW deriveW
  show (match (l.pieces.map (fun p => (deriveL (vals p)).map mkR))[i]? with | some p => vals p | none => []) = _
  rw [List.getElem?_map]
  cases l.pieces[i]? with
  | none => rfl
  | some p => exact vals_mkR _
end Go.Proofs.YtbgkjomonebfcaaGreat.Sym
namespace Go.Proofs.YtbgkjomonebfcaaGreat.Sym.Path
open Go
set_option maxRecDepth 20000
set_option linter.unusedVariables false
namespace cam_Radius
theorem e0 (c : ACam) (x atV add : ARat) (h1 : Contract prg 106 [c.pv, x.pv] .nilI) (h2 : Contract prg 107 [c.lift.pv, x.pv] (.tup [atV.pv, .nilI])) (h3 : Contract prg 63 [c.base.pv, atV.pv] add.pv) : Contract prg 43 [c.pv, x.pv] (.tup [add.pv, .nilI]) :=
  Contract.ofL Tryz.func43 (by kernel_rfl) (L.done mixed tabOk (n := 114) (ns := [1, 1, 1]) (tr := [.reg [], .reg [.none, .none, (.pv .nilI)], .reg [], .auto, .reg [.none, .none, .none, (.pv (.tup [atV.pv, .nilI]))], .reg [], .auto, .reg [.none, .none, .none, (.pv add.pv)]]) (cj h1 (cj h2 (cj h3 True.intro))) (by kernel_rfl))
end cam_Radius
namespace cam_Pressure
theorem e1 (c : ACam) (x rad : ARat) (sig : Int) (der of mul hig mul1 div low mul2 div2 : ARat) (enc : ARange) (h1 : Contract prg 43 [c.pv, x.pv] (.tup [rad.pv, .nilI])) (h2 : Contract prg 39 [rad.pv] (vI sig)) (h3 : 0 < sig) (h4 : Contract prg 108 [c.lift.pv, (vI 1), x.pv] (.tup [der.pv, .nilI])) (h5 : Contract prg 73 [(vI 2)] of.pv) (h6 : Contract prg 85 [of.pv, rad.pv] mul.pv) (h7 : Contract prg 110 [] hig.pv) (h8 : Contract prg 85 [mul.pv, hig.pv] mul1.pv) (h9 : Contract prg 109 [der.pv, mul1.pv] (.tup [div.pv, .nilI])) (h10 : Contract prg 111 [] low.pv) (h11 : Contract prg 85 [mul.pv, low.pv] mul2.pv) (h12 : Contract prg 109 [der.pv, mul2.pv] (.tup [div2.pv, .nilI])) (h13 : Contract prg 112 [div.pv, div2.pv] enc.pv) : Contract prg 44 [c.pv, x.pv] (.tup [enc.pv, .nilI]) :=
  Contract.ofL Tryz.func44 (by kernel_rfl) (L.done mixed tabOk (n := 177) (ns := [1, 1, 1, 1, 1, 1, 1, 1, 1, 1, 1, 1, 1]) (tr := [.reg [], .reg [.none, .none, (.pv (.tup [rad.pv, .nilI]))], .reg [], .auto, .reg [.none, (.pv (vI sig))], .dec false, .reg [.none, .none, .none, (.pv (.tup [der.pv, .nilI]))], .reg [], .auto, dr 4 1 [(.pv of.pv), .none, (.pv mul.pv)], dr 10 1 [.none, .none, (.pv hig.pv), (.pv mul1.pv), (.pv (.tup [div.pv, .nilI]))], .reg [], .auto, dr 10 1 [.none, .none, (.pv low.pv), (.pv mul2.pv), (.pv (.tup [div2.pv, .nilI]))], .reg [], .auto, .reg [.none, .none, (.pv enc.pv)]]) (cj h1 (cj h2 (cj (dle_f h3) (cj h4 (cj h5 (cj h6 (cj h7 (cj h8 (cj h9 (cj h10 (cj h11 (cj h12 (cj h13 True.intro))))))))))))) (by kernel_rfl))
end cam_Pressure
namespace linkworkref53_Check
theorem e0 (c : ACam) (che : Int) (h1 : Contract prg 68 [c.lift.pv] (vI che)) (h2 : che ≠ 0) : Contract prg 46 [c.pv] (vI che) :=
  Contract.ofL Tryz.func46 (by kernel_rfl) (L.done mixed tabOk (n := 90) (ns := [1, 1]) (tr := [.reg [], .reg [.none, .none, (.pv (vI che))], .reg [], .dec true, .reg []]) (cj h1 (cj (dne_t h2) True.intro)) (by kernel_rfl))
theorem e1 (c : ACam) (che : Int) (val : Bool) (h1 : Contract prg 68 [c.lift.pv] (vI che)) (h2 : che = 0) (h3 : Contract prg 48 [c.base.pv] (vB val)) (h4 : val = false) : Contract prg 46 [c.pv] (vI 3) :=
  Contract.ofL Tryz.func46 (by kernel_rfl) (L.done mixed tabOk (n := 105) (ns := [1, 1, 1, 1, 1, 1, 1, 1]) (tr := [.reg [], .reg [.none, .none, (.pv (vI che))], .reg [], .dec false, .reg [.none, .none, (.pv (vB val)), .none, .none, .skip, .skip, .skip, .skip, (.dec true)], .auto, .reg []]) (cj h1 (cj (dne_f h2) (cj h3 (cj (bnot_t h4) (cj (bnot_t h4) (cj (bnot_t h4) (cj (bnot_t h4) (cj (bnot_t h4) True.intro)))))))) (by kernel_rfl))
theorem e2 (c : ACam) (che : Int) (val : Bool) (sig : Int) (h1 : Contract prg 68 [c.lift.pv] (vI che)) (h2 : che = 0) (h3 : Contract prg 48 [c.base.pv] (vB val)) (h4 : val = true) (h5 : Contract prg 59 [c.base.pv] (vI sig)) (h6 : sig ≤ 0) : Contract prg 46 [c.pv] (vI 3) :=
  Contract.ofL Tryz.func46 (by kernel_rfl) (L.done mixed tabOk (n := 105) (ns := [1, 1, 1, 1, 1, 1, 1, 1, 1, 1]) (tr := [.reg [], .reg [.none, .none, (.pv (vI che))], .reg [], .dec false, .reg [.none, .none, (.pv (vB val)), .none, .none, .none, .none, (.pv (vI sig)), .none, (.dec false)], .dec true, .reg []]) (cj h1 (cj (dne_f h2) (cj h3 (cj (bnot_f h4) (cj (bnot_f h4) (cj (bnot_f h4) (cj h5 (cj (bnot_f h4) (cj (bnot_f h4) (cj (dle_t h6) True.intro)))))))))) (by kernel_rfl))
theorem e3 (c : ACam) (che : Int) (val : Bool) (sig : Int) (h1 : Contract prg 68 [c.lift.pv] (vI che)) (h2 : che = 0) (h3 : Contract prg 48 [c.base.pv] (vB val)) (h4 : val = true) (h5 : Contract prg 59 [c.base.pv] (vI sig)) (h6 : 0 < sig) : Contract prg 46 [c.pv] (vI 0) :=
  Contract.ofL Tryz.func46 (by kernel_rfl) (L.done mixed tabOk (n := 108) (ns := [1, 1, 1, 1, 1, 1, 1, 1, 1, 1]) (tr := [.reg [], .reg [.none, .none, (.pv (vI che))], .reg [], .dec false, .reg [.none, .none, (.pv (vB val)), .none, .none, .none, .none, (.pv (vI sig)), .none, (.dec false)], .dec false, .reg []]) (cj h1 (cj (dne_f h2) (cj h3 (cj (bnot_f h4) (cj (bnot_f h4) (cj (bnot_f h4) (cj h5 (cj (bnot_f h4) (cj (bnot_f h4) (cj (dle_f h6) True.intro)))))))))) (by kernel_rfl))
end linkworkref53_Check
namespace cam_Check
theorem e0 (c : ACam) (val : Bool) (h1 : Contract prg 114 [c.lift.pv] .nilI) (h2 : Contract prg 97 [c.base.pv] (vB val)) (h3 : val = false) : Contract prg 47 [c.pv] (.iface 94 (vI 3)) :=
  Contract.ofL Tryz.func47 (by kernel_rfl) (L.done mixed tabOk (n := 105) (ns := [1, 1, 1, 1, 1, 1, 1]) (tr := [.reg [], .reg [.none, .none, (.pv .nilI)], .reg [], .auto, .reg [.none, .none, (.pv (vB val)), .none, .none, .skip, .skip, .skip, .skip, (.dec true)], .auto, .reg []]) (cj h1 (cj h2 (cj (bnot_t h3) (cj (bnot_t h3) (cj (bnot_t h3) (cj (bnot_t h3) (cj (bnot_t h3) True.intro))))))) (by kernel_rfl))
theorem e1 (c : ACam) (val : Bool) (sig : Int) (h1 : Contract prg 114 [c.lift.pv] .nilI) (h2 : Contract prg 97 [c.base.pv] (vB val)) (h3 : val = true) (h4 : Contract prg 39 [c.base.pv] (vI sig)) (h5 : sig ≤ 0) : Contract prg 47 [c.pv] (.iface 94 (vI 3)) :=
  Contract.ofL Tryz.func47 (by kernel_rfl) (L.done mixed tabOk (n := 105) (ns := [1, 1, 1, 1, 1, 1, 1, 1, 1]) (tr := [.reg [], .reg [.none, .none, (.pv .nilI)], .reg [], .auto, .reg [.none, .none, (.pv (vB val)), .none, .none, .none, .none, (.pv (vI sig)), .none, (.dec false)], .dec true, .reg []]) (cj h1 (cj h2 (cj (bnot_f h3) (cj (bnot_f h3) (cj (bnot_f h3) (cj h4 (cj (bnot_f h3) (cj (bnot_f h3) (cj (dle_t h5) True.intro))))))))) (by kernel_rfl))
theorem e2 (c : ACam) (val : Bool) (sig : Int) (h1 : Contract prg 114 [c.lift.pv] .nilI) (h2 : Contract prg 97 [c.base.pv] (vB val)) (h3 : val = true) (h4 : Contract prg 39 [c.base.pv] (vI sig)) (h5 : 0 < sig) : Contract prg 47 [c.pv] .nilI :=
  Contract.ofL Tryz.func47 (by kernel_rfl) (L.done mixed tabOk (n := 108) (ns := [1, 1, 1, 1, 1, 1, 1, 1, 1]) (tr := [.reg [], .reg [.none, .none, (.pv .nilI)], .reg [], .auto, .reg [.none, .none, (.pv (vB val)), .none, .none, .none, .none, (.pv (vI sig)), .none, (.dec false)], .dec false, .reg []]) (cj h1 (cj h2 (cj (bnot_f h3) (cj (bnot_f h3) (cj (bnot_f h3) (cj h4 (cj (bnot_f h3) (cj (bnot_f h3) (cj (dle_f h5) True.intro))))))))) (by kernel_rfl))
theorem e3 (c : ACam) (che : Int) (h1 : Contract prg 114 [c.lift.pv] (.iface 94 (vI che))) : Contract prg 47 [c.pv] (.iface 94 (vI che)) :=
  Contract.ofL Tryz.func47 (by kernel_rfl) (L.done mixed tabOk (n := 90) (ns := [1]) (tr := [.reg [], .reg [.none, .none, (.pv (.iface 94 (vI che)))], .reg [], .auto, .reg []]) (cj h1 True.intro) (by kernel_rfl))
end cam_Check
namespace cam_Positive
theorem e0 (c : ACam) (of : ARat) (all : Bool) (all1 : Option Int) (h1 : Contract prg 47 [c.pv] .nilI) (h2 : Contract prg 73 [(vI 1)] of.pv) (h3 : Contract prg 126 [c.pv, of.pv, (⟨false, [], []⟩ : ARat).pv, (vI 0)] (.tup [(vB all), (errPV all1)])) : Contract prg 54 [c.pv] (.tup [(vB all), (errPV all1)]) :=
  Contract.ofL Tryz.func54 (by kernel_rfl) (L.done mixed tabOk (n := 93) (ns := [1, 1, 1]) (tr := [.reg [], .reg [.none, (.pv .nilI)], .reg [], .auto, dr 6 2 [.none, (.pv of.pv), .none, (.pv (.tup [(vB all), (errPV all1)]))]]) (cj h1 (cj h2 (cj h3 True.intro))) (by kernel_rfl))
theorem e1 (c : ACam) (che : Int) (h1 : Contract prg 47 [c.pv] (.iface 94 (vI che))) : Contract prg 54 [c.pv] (.tup [(vB false), (.iface 94 (vI che))]) :=
  Contract.ofL Tryz.func54 (by kernel_rfl) (L.done mixed tabOk (n := 90) (ns := [1]) (tr := [.reg [], .reg [.none, (.pv (.iface 94 (vI che)))], .reg [], .auto, .reg []]) (cj h1 True.intro) (by kernel_rfl))
end cam_Positive
namespace cam_Within
@[reducible] noncomputable def fn : Func := Tryz.f55
noncomputable def atK1 : List Itm := focus [0, 2, 0, 0, 2, 0, 2, 1, 2, 0, 0, 2, 1, 2, 0, 2, 0, 0, 2, 0, 0] [.code (bodyOf fn)]
def inv1 (t_33 : Nat) (c : ACam) (mul1 : ARat) : St := ⟨[(2, (.ptr 2 0)), (7, (.ptr 7 0)), (31, (.row 31 0 2 1)), (32, (eI 2)), (33, (eI (t_33 : Int)))], [(2, (.lit [(eB c.base.neg), (.pv (wordsPV c.base.num)), (.pv (wordsPV c.base.den)), (.pv (polyPV c.lift.breaks)), (.pv (lpv (lcell ARat.cells) c.lift.pieces))])), (7, (.lit [(eB mul1.neg), (.pv (wordsPV mul1.num)), (.pv (wordsPV mul1.den))])), (31, (.pure (([(-1), 1] : List Int).map intCell).flatten))]⟩
@[reducible] noncomputable def Loop1 (t_33 : Nat) (c : ACam) (mul1 : ARat) (r : PV) : Prop := L prg fn atK1 (inv1 t_33 c mul1) r
theorem e0 (c : ACam) (limit : ARat) (val : Bool) (h1 : Contract prg 47 [c.pv] .nilI) (h2 : Contract prg 97 [limit.pv] (vB val)) (h3 : val = false) : Contract prg 55 [c.pv, limit.pv] (.tup [(vB false), (.iface 94 (vI 3))]) :=
  Contract.ofL Tryz.func55 (by kernel_rfl) (L.done mixed tabOk (n := 105) (ns := [1, 1, 1, 1, 1, 1]) (tr := [.reg [], .reg [.none, (.pv .nilI)], .reg [], .auto, .reg [.none, (.pv (vB val)), .none, .none, .skip, .skip, .skip, (.dec true)], .auto, .reg []]) (cj h1 (cj h2 (cj (bnot_t h3) (cj (bnot_t h3) (cj (bnot_t h3) (cj (bnot_t h3) True.intro)))))) (by kernel_rfl))
theorem e1 (c : ACam) (limit : ARat) (val : Bool) (sig : Int) (h1 : Contract prg 47 [c.pv] .nilI) (h2 : Contract prg 97 [limit.pv] (vB val)) (h3 : val = true) (h4 : Contract prg 39 [limit.pv] (vI sig)) (h5 : sig ≤ 0) : Contract prg 55 [c.pv, limit.pv] (.tup [(vB false), (.iface 94 (vI 3))]) :=
  Contract.ofL Tryz.func55 (by kernel_rfl) (L.done mixed tabOk (n := 105) (ns := [1, 1, 1, 1, 1, 1, 1, 1]) (tr := [.reg [], .reg [.none, (.pv .nilI)], .reg [], .auto, .reg [.none, (.pv (vB val)), .none, .none, .none, (.pv (vI sig)), .none, (.dec false)], .dec true, .reg []]) (cj h1 (cj h2 (cj (bnot_f h3) (cj (bnot_f h3) (cj h4 (cj (bnot_f h3) (cj (bnot_f h3) (cj (dle_t h5) True.intro)))))))) (by kernel_rfl))
theorem e2 (c : ACam) (limit : ARat) (val : Bool) (sig : Int) (of low mul mul1 : ARat) {r : PV} (h1 : Contract prg 47 [c.pv] .nilI) (h2 : Contract prg 97 [limit.pv] (vB val)) (h3 : val = true) (h4 : Contract prg 39 [limit.pv] (vI sig)) (h5 : 0 < sig) (h6 : Contract prg 73 [(vI 2)] of.pv) (h7 : Contract prg 111 [] low.pv) (h8 : Contract prg 85 [low.pv, limit.pv] mul.pv) (h9 : Contract prg 85 [of.pv, mul.pv] mul1.pv) (hL : Loop1 0 c mul1 r) : Contract prg 55 [c.pv, limit.pv] r :=
  Contract.ofL Tryz.func55 (by kernel_rfl) (L.go mixed tabOk (n := 123) (ns := [1, 1, 1, 1, 1, 1, 1, 1, 1, 1, 1, 1]) (tr := [.reg [], .reg [.none, (.pv .nilI)], .reg [], .auto, .reg [.none, (.pv (vB val)), .none, .none, .none, (.pv (vI sig)), .none, (.dec false)], .dec false, dr 6 1 [(.pv of.pv), (.pv low.pv), .none, (.pv mul.pv), (.pv mul1.pv)], .reg [], .keep [2, 7, 31, 32, 33], .drop [3], .ord [2, 7, 31]]) (cj h1 (cj h2 (cj (bnot_f h3) (cj (bnot_f h3) (cj h4 (cj (bnot_f h3) (cj (bnot_f h3) (cj (dle_f h5) (cj h6 (cj h7 (cj h8 (cj h9 True.intro)))))))))))) (by kernel_rfl) hL)
theorem e3 (c : ACam) (limit : ARat) (che : Int) (h1 : Contract prg 47 [c.pv] (.iface 94 (vI che))) : Contract prg 55 [c.pv, limit.pv] (.tup [(vB false), (.iface 94 (vI che))]) :=
  Contract.ofL Tryz.func55 (by kernel_rfl) (L.done mixed tabOk (n := 90) (ns := [1]) (tr := [.reg [], .reg [.none, (.pv (.iface 94 (vI che)))], .reg [], .auto, .reg []]) (cj h1 True.intro) (by kernel_rfl))
theorem l10 (t_33 : Nat) (c : ACam) (mul1 : ARat) (v : Int) (of : ARat) (all : Bool) (h1 : t_33 < 2) (h2 : [(-1), 1][t_33]? = some v) (h3 : Contract prg 73 [(vI v)] of.pv) (h4 : Contract prg 126 [c.pv, mul1.pv, of.pv, (vI 1)] (.tup [(vB all), .nilI])) (h5 : all = false) : Loop1 t_33 c mul1 (.tup [(vB false), .nilI]) :=
  L.done mixed tabOk (n := 174) (ns := [1, 2, 1, 1, 1, 1, 1, 1]) (tr := [.auto, .reg [], .dec true, .reg [(.nat t_33), (.ev (.pv (vI v)))], dr 9 1 [.none, .none, .none, (.pv of.pv), (.pv (.tup [(vB all), .nilI]))], .reg [], .dec true, .reg []]) (cj (dltN_t h1) (cj (cj (Eq.refl (((t_33 : Nat) : Int) : Int)) h1) (cj (o_get (enc := intCell) (f := fun a => (vI a)) (fun _ => rfl) h2) (cj h3 (cj h4 (cj (Eq.refl false) (cj (Eq.refl false) (cj (bnot_t h5) True.intro)))))))) (by kernel_rfl)
theorem l11 (t_33 : Nat) (c : ACam) (mul1 : ARat) (v : Int) (of : ARat) (all : Bool) {r : PV} (h1 : t_33 < 2) (h2 : [(-1), 1][t_33]? = some v) (h3 : Contract prg 73 [(vI v)] of.pv) (h4 : Contract prg 126 [c.pv, mul1.pv, of.pv, (vI 1)] (.tup [(vB all), .nilI])) (h5 : all = true) (h6 : (t_33 + 1) < 9223372036854775808) (hL : Loop1 (t_33 + 1) c mul1 r) : Loop1 t_33 c mul1 r :=
  L.go mixed tabOk (n := 177) (ns := [1, 2, 1, 1, 1, 1, 1, 1, 1]) (tr := [.auto, .reg [], .dec true, .reg [(.nat t_33), (.ev (.pv (vI v)))], dr 9 1 [.none, .none, .none, (.pv of.pv), (.pv (.tup [(vB all), .nilI]))], .reg [], .dec false, .reg [(iI (((t_33 + 1) : Nat) : Int))], .keep [2, 7, 31, 32, 33]]) (cj (dltN_t h1) (cj (cj (Eq.refl (((t_33 : Nat) : Int) : Int)) h1) (cj (o_get (enc := intCell) (f := fun a => (vI a)) (fun _ => rfl) h2) (cj h3 (cj h4 (cj (Eq.refl false) (cj (Eq.refl false) (cj (bnot_f h5) (cj (bs_addN h6) True.intro))))))))) (by kernel_rfl) hL
theorem l13 (t_33 : Nat) (c : ACam) (mul1 : ARat) (pos : Bool) (pos1 : Option Int) (h1 : 2 ≤ t_33) (h2 : Contract prg 54 [c.pv] (.tup [(vB pos), (errPV pos1)])) : Loop1 t_33 c mul1 (.tup [(vB pos), (errPV pos1)]) :=
  L.done mixed tabOk (n := 156) (ns := [1, 1]) (tr := [.auto, .reg [], .dec false, .reg [.none, (.pv (.tup [(vB pos), (errPV pos1)]))]]) (cj (dltN_f h1) (cj h2 True.intro)) (by kernel_rfl)
end cam_Within
namespace cam_Convex
@[reducible] noncomputable def fn : Func := Tryz.f56
noncomputable def atK1 : List Itm := focus [0, 2, 0, 0, 2, 0, 2, 1, 2, 0, 0, 2, 0, 0] [.code (bodyOf fn)]
def inv1 (t_18 : Nat) (c : ACam) (low hig : ARat) : St := ⟨[(1, (.ptr 1 0)), (16, (.row 16 0 2 3)), (17, (eI 2)), (18, (eI (t_18 : Int)))], [(1, (.lit [(eB c.base.neg), (.pv (wordsPV c.base.num)), (.pv (wordsPV c.base.den)), (.pv (polyPV c.lift.breaks)), (.pv (lpv (lcell ARat.cells) c.lift.pieces))])), (16, (.pure (([low, hig] : List ARat).map ARat.cells).flatten))]⟩
@[reducible] noncomputable def Loop1 (t_18 : Nat) (c : ACam) (low hig : ARat) (r : PV) : Prop := L prg fn atK1 (inv1 t_18 c low hig) r
theorem e0 (c : ACam) (low hig : ARat) {r : PV} (h1 : Contract prg 47 [c.pv] .nilI) (h2 : Contract prg 111 [] low.pv) (h3 : Contract prg 110 [] hig.pv) (hL : Loop1 0 c low hig r) : Contract prg 56 [c.pv] r :=
  Contract.ofL Tryz.func56 (by kernel_rfl) (L.go mixed tabOk (n := 102) (ns := [1, 1, 1]) (tr := [.reg [], .reg [.none, (.pv .nilI)], .reg [], .auto, .reg [(.pv low.pv), (.pv hig.pv)], .keep [1, 16, 17, 18], .ord [1, 16]]) (cj h1 (cj h2 (cj h3 True.intro))) (by kernel_rfl) hL)
theorem e1 (c : ACam) (che : Int) (h1 : Contract prg 47 [c.pv] (.iface 94 (vI che))) : Contract prg 56 [c.pv] (.tup [(vB false), (.iface 94 (vI che))]) :=
  Contract.ofL Tryz.func56 (by kernel_rfl) (L.done mixed tabOk (n := 90) (ns := [1]) (tr := [.reg [], .reg [.none, (.pv (.iface 94 (vI che)))], .reg [], .auto, .reg []]) (cj h1 True.intro) (by kernel_rfl))
theorem l10 (t_18 : Nat) (c : ACam) (low hig v of squ : ARat) (all : Bool) (h1 : t_18 < 2) (h2 : [low, hig][t_18]? = some v) (h3 : Contract prg 73 [(vI 1)] of.pv) (h4 : Contract prg 113 [v.pv] squ.pv) (h5 : Contract prg 126 [c.pv, of.pv, squ.pv, (vI 2)] (.tup [(vB all), .nilI])) (h6 : all = false) : Loop1 t_18 c low hig (.tup [(vB false), .nilI]) :=
  L.done mixed tabOk (n := 153) (ns := [1, 2, 2, 1, 1, 1, 1, 1, 1]) (tr := [.auto, .reg [], .dec true, .reg [(.nat t_18), (.seg [(vB v.neg), (wordsPV v.num), (wordsPV v.den)])], dr 9 1 [.none, (.pv of.pv), .none, (.pv squ.pv), (.pv (.tup [(vB all), .nilI]))], .reg [], .dec true, .reg []]) (cj (dltN_t h1) (cj (cj (Eq.refl (((t_18 : Nat) : Int) : Int)) h1) (cj (o_seg sz_ARat h2) (cj h3 (cj h4 (cj h5 (cj (Eq.refl false) (cj (Eq.refl false) (cj (bnot_t h6) True.intro))))))))) (by kernel_rfl)
theorem l11 (t_18 : Nat) (c : ACam) (low hig v of squ : ARat) (all : Bool) {r : PV} (h1 : t_18 < 2) (h2 : [low, hig][t_18]? = some v) (h3 : Contract prg 73 [(vI 1)] of.pv) (h4 : Contract prg 113 [v.pv] squ.pv) (h5 : Contract prg 126 [c.pv, of.pv, squ.pv, (vI 2)] (.tup [(vB all), .nilI])) (h6 : all = true) (h7 : (t_18 + 1) < 9223372036854775808) (hL : Loop1 (t_18 + 1) c low hig r) : Loop1 t_18 c low hig r :=
  L.go mixed tabOk (n := 156) (ns := [1, 2, 2, 1, 1, 1, 1, 1, 1, 1]) (tr := [.auto, .reg [], .dec true, .reg [(.nat t_18), (.seg [(vB v.neg), (wordsPV v.num), (wordsPV v.den)])], dr 9 1 [.none, (.pv of.pv), .none, (.pv squ.pv), (.pv (.tup [(vB all), .nilI]))], .reg [], .dec false, .reg [(iI (((t_18 + 1) : Nat) : Int))], .keep [1, 16, 17, 18], .drop [6]]) (cj (dltN_t h1) (cj (cj (Eq.refl (((t_18 : Nat) : Int) : Int)) h1) (cj (o_seg sz_ARat h2) (cj h3 (cj h4 (cj h5 (cj (Eq.refl false) (cj (Eq.refl false) (cj (bnot_f h6) (cj (bs_addN h7) True.intro)))))))))) (by kernel_rfl) hL
theorem l13 (t_18 : Nat) (c : ACam) (low hig : ARat) (h1 : 2 ≤ t_18) : Loop1 t_18 c low hig (.tup [(vB true), .nilI]) :=
  L.done mixed tabOk (n := 135) (ns := [1]) (tr := [.auto, .reg [], .dec false, .reg []]) (cj (dltN_f h1) True.intro) (by kernel_rfl)
end cam_Convex
namespace linkworkref53_Positive
@[reducible] noncomputable def fn : Func := Tryz.f57
noncomputable def atK1 : List Itm := focus [0, 2, 0, 0, 2, 0, 0] [.code (bodyOf fn)]
def inv1 (i_3 : Nat) (c : ACam) : St := ⟨[(1, (.ptr 1 0)), (3, (eI (i_3 : Int)))], [(1, (.lit [(eB c.base.neg), (.pv (wordsPV c.base.num)), (.pv (wordsPV c.base.den)), (.pv (polyPV c.lift.breaks)), (.pv (lpv (lcell ARat.cells) c.lift.pieces))]))]⟩
@[reducible] noncomputable def Loop1 (i_3 : Nat) (c : ACam) (r : PV) : Prop := L prg fn atK1 (inv1 i_3 c) r
theorem e0 (c : ACam) {r : PV}  (hL : Loop1 0 c r) : Contract prg 57 [c.pv] r :=
  Contract.ofL Tryz.func57 (by kernel_rfl) (L.go mixed tabOk (n := 81) (ns := []) (tr := [.reg [], .reg [], .keep [1, 3]]) True.intro (by kernel_rfl) hL)
theorem l10 (i_3 : Nat) (c : ACam) (rad : List ARat) (len : ARat) (pos : Bool) (h1 : i_3 < c.lift.pieces.length) (h2 : Contract prg 128 [c.pv, (vI (i_3 : Int))] (polyPV rad)) (h3 : Contract prg 129 [c.lift.pv, (vI (i_3 : Int))] len.pv) (h4 : Contract prg 127 [(polyPV rad), len.pv] (vB pos)) (h5 : pos = false) : Loop1 i_3 c (vB false) :=
  L.done mixed tabOk (n := 120) (ns := [1, 1, 1, 1, 1, 1]) (tr := [.auto, .reg [.none, .none, .none, .none, (iI (c.lift.pieces.length : Int))], .dec true, dr 9 0 [.none, .none, (.pv (polyPV rad)), .none, .none, .none, (.pv len.pv), (.pv (vB pos))], .dec true, .reg []]) (cj (o_len (lcell ARat.cells) c.lift.pieces) (cj (dltN_t h1) (cj h2 (cj h3 (cj h4 (cj (bnot_t h5) True.intro)))))) (by kernel_rfl)
theorem l11 (i_3 : Nat) (c : ACam) (rad : List ARat) (len : ARat) (pos : Bool) {r : PV} (h1 : i_3 < c.lift.pieces.length) (h2 : Contract prg 128 [c.pv, (vI (i_3 : Int))] (polyPV rad)) (h3 : Contract prg 129 [c.lift.pv, (vI (i_3 : Int))] len.pv) (h4 : Contract prg 127 [(polyPV rad), len.pv] (vB pos)) (h5 : pos = true) (h6 : (i_3 + 1) < 9223372036854775808) (hL : Loop1 (i_3 + 1) c r) : Loop1 i_3 c r :=
  L.go mixed tabOk (n := 123) (ns := [1, 1, 1, 1, 1, 1, 1]) (tr := [.auto, .reg [.none, .none, .none, .none, (iI (c.lift.pieces.length : Int))], .dec true, dr 9 0 [.none, .none, (.pv (polyPV rad)), .none, .none, .none, (.pv len.pv), (.pv (vB pos))], .dec false, .reg [.none, (iI (((i_3 + 1) : Nat) : Int))], .keep [1, 3]]) (cj (o_len (lcell ARat.cells) c.lift.pieces) (cj (dltN_t h1) (cj h2 (cj h3 (cj h4 (cj (bnot_f h5) (cj (bs_addN h6) True.intro))))))) (by kernel_rfl) hL
theorem l12 (i_3 : Nat) (c : ACam) (h1 : c.lift.pieces.length ≤ i_3) : Loop1 i_3 c (vB true) :=
  L.done mixed tabOk (n := 114) (ns := [1, 1]) (tr := [.auto, .reg [.none, .none, .none, .none, (iI (c.lift.pieces.length : Int))], .dec false, .reg []]) (cj (o_len (lcell ARat.cells) c.lift.pieces) (cj (dltN_f h1) True.intro)) (by kernel_rfl)
end linkworkref53_Positive
namespace linkworkref53_Convex
@[reducible] noncomputable def fn : Func := Tryz.f58
noncomputable def atK1 : List Itm := focus [0, 2, 0, 2, 0, 2, 0, 0, 2, 0, 0] [.code (bodyOf fn)]
def inv1 (i_5 : Nat) (c : ACam) (der1 : ALaw) (of : ARat) : St := ⟨[(1, (.ptr 1 0)), (3, (.ptr 3 0)), (4, (.ptr 4 0)), (5, (eI (i_5 : Int)))], [(1, (.lit [(eB c.base.neg), (.pv (wordsPV c.base.num)), (.pv (wordsPV c.base.den)), (.pv (polyPV c.lift.breaks)), (.pv (lpv (lcell ARat.cells) c.lift.pieces))])), (3, (.lit [(.pv (polyPV der1.breaks)), (.pv (lpv (lcell ARat.cells) der1.pieces))])), (4, (.lit [(eB of.neg), (.pv (wordsPV of.num)), (.pv (wordsPV of.den))]))]⟩
@[reducible] noncomputable def Loop1 (i_5 : Nat) (c : ACam) (der1 : ALaw) (of : ARat) (r : PV) : Prop := L prg fn atK1 (inv1 i_5 c der1 of) r
theorem e0 (c : ACam) (der der1 : ALaw) (of : ARat) {r : PV} (h1 : Contract prg 130 [c.lift.pv] der.pv) (h2 : Contract prg 130 [der.pv] der1.pv) (h3 : Contract prg 70 [(vI 1)] of.pv) (hL : Loop1 0 c der1 of r) : Contract prg 58 [c.pv] r :=
  Contract.ofL Tryz.func58 (by kernel_rfl) (L.go mixed tabOk (n := 93) (ns := [1, 1, 1]) (tr := [.reg [], .reg [.none, .none, (.pv der.pv), (.pv der1.pv)], .reg [(.pv of.pv)], .reg [], .keep [1, 3, 4, 5], .ord [1, 3, 4]]) (cj h1 (cj h2 (cj h3 True.intro))) (by kernel_rfl) hL)
theorem l10 (i_5 : Nat) (c : ACam) (der1 : ALaw) (of pil squ ove pih squ1 ove1 : ARat) (rad v add : List ARat) (len : ARat) (pos : Bool) (h1 : i_5 < c.lift.pieces.length) (h2 : Contract prg 123 [] pil.pv) (h3 : Contract prg 132 [pil.pv] squ.pv) (h4 : Contract prg 131 [of.pv, squ.pv] ove.pv) (h5 : Contract prg 122 [] pih.pv) (h6 : Contract prg 132 [pih.pv] squ1.pv) (h7 : Contract prg 131 [of.pv, squ1.pv] ove1.pv) (h8 : Contract prg 128 [c.pv, (vI (i_5 : Int))] (polyPV rad)) (h9 : der1.pieces[i_5]? = some v) (h10 : Contract prg 133 [(polyPV rad), (polyPV v), ove.pv] (polyPV add)) (h11 : Contract prg 129 [c.lift.pv, (vI (i_5 : Int))] len.pv) (h12 : Contract prg 127 [(polyPV add), len.pv] (vB pos)) (h13 : pos = false) : Loop1 i_5 c der1 of (vB false) :=
  L.done mixed tabOk (n := 138) (ns := [1, 1, 1, 1, 1, 1, 1, 1, 1, 3, 1, 1, 1, 1, 1, 1, 1, 1, 1, 1, 1, 1, 1, 1, 1, 1, 1, 1, 1, 1]) (tr := [.auto, .reg [.none, .none, .none, .none, (iI (c.lift.pieces.length : Int))], .dec true, dr 10 2 [.none, (.pv pil.pv), (.pv squ.pv), (.pv ove.pv), .none, (.pv pih.pv), (.pv squ1.pv), (.pv ove1.pv)], dr 34 0 [.none, .none, (.pv (polyPV rad)), .none, .none, .none, (.row i_5 ((lcell ARat.cells) v)), .none, .none, (.pv (polyPV add)), .none, .none, .none, (.pv len.pv), (.pv (vB pos)), .none, .none, .skip, .skip, .skip, .skip, .skip, .skip, .skip, .skip, .skip, .skip, .skip, .skip, .skip, .skip, .skip, .skip, (.dec true)], .auto, .reg []]) (cj (o_len (lcell ARat.cells) c.lift.pieces) (cj (dltN_t h1) (cj h2 (cj h3 (cj h4 (cj h5 (cj h6 (cj h7 (cj h8 (cj (o_at (lcell ARat.cells) (Eq.refl (((i_5 : Nat) : Int) : Int)) h9) (cj h10 (cj h11 (cj h12 (cj (bnot_t h13) (cj (bnot_t h13) (cj (bnot_t h13) (cj (bnot_t h13) (cj (bnot_t h13) (cj (bnot_t h13) (cj (bnot_t h13) (cj (bnot_t h13) (cj (bnot_t h13) (cj (bnot_t h13) (cj (bnot_t h13) (cj (bnot_t h13) (cj (bnot_t h13) (cj (bnot_t h13) (cj (bnot_t h13) (cj (bnot_t h13) (cj (bnot_t h13) True.intro)))))))))))))))))))))))))))))) (by kernel_rfl)
theorem l11 (i_5 : Nat) (c : ACam) (der1 : ALaw) (of pil squ ove pih squ1 ove1 : ARat) (rad v add : List ARat) (len : ARat) (pos : Bool) (rad1 add1 : List ARat) (len1 : ARat) (pos1 : Bool) (h1 : i_5 < c.lift.pieces.length) (h2 : Contract prg 123 [] pil.pv) (h3 : Contract prg 132 [pil.pv] squ.pv) (h4 : Contract prg 131 [of.pv, squ.pv] ove.pv) (h5 : Contract prg 122 [] pih.pv) (h6 : Contract prg 132 [pih.pv] squ1.pv) (h7 : Contract prg 131 [of.pv, squ1.pv] ove1.pv) (h8 : Contract prg 128 [c.pv, (vI (i_5 : Int))] (polyPV rad)) (h9 : der1.pieces[i_5]? = some v) (h10 : Contract prg 133 [(polyPV rad), (polyPV v), ove.pv] (polyPV add)) (h11 : Contract prg 129 [c.lift.pv, (vI (i_5 : Int))] len.pv) (h12 : Contract prg 127 [(polyPV add), len.pv] (vB pos)) (h13 : pos = true) (h14 : Contract prg 128 [c.pv, (vI (i_5 : Int))] (polyPV rad1)) (h15 : Contract prg 133 [(polyPV rad1), (polyPV v), ove1.pv] (polyPV add1)) (h16 : Contract prg 129 [c.lift.pv, (vI (i_5 : Int))] len1.pv) (h17 : Contract prg 127 [(polyPV add1), len1.pv] (vB pos1)) (h18 : pos1 = false) : Loop1 i_5 c der1 of (vB false) :=
  L.done mixed tabOk (n := 138) (ns := [1, 1, 1, 1, 1, 1, 1, 1, 1, 3, 1, 1, 1, 1, 1, 1, 1, 1, 1, 1, 1, 3, 1, 1, 1, 1, 1, 1, 1, 1, 1, 1, 1, 1, 1, 1]) (tr := [.auto, .reg [.none, .none, .none, .none, (iI (c.lift.pieces.length : Int))], .dec true, dr 10 2 [.none, (.pv pil.pv), (.pv squ.pv), (.pv ove.pv), .none, (.pv pih.pv), (.pv squ1.pv), (.pv ove1.pv)], dr 34 0 [.none, .none, (.pv (polyPV rad)), .none, .none, .none, (.row i_5 ((lcell ARat.cells) v)), .none, .none, (.pv (polyPV add)), .none, .none, .none, (.pv len.pv), (.pv (vB pos)), .none, .none, .none, .none, (.pv (polyPV rad1)), .none, .none, .none, (.row i_5 ((lcell ARat.cells) v)), .none, .none, (.pv (polyPV add1)), .none, .none, .none, (.pv len1.pv), (.pv (vB pos1)), .none, (.dec false)], .dec true, .reg []]) (cj (o_len (lcell ARat.cells) c.lift.pieces) (cj (dltN_t h1) (cj h2 (cj h3 (cj h4 (cj h5 (cj h6 (cj h7 (cj h8 (cj (o_at (lcell ARat.cells) (Eq.refl (((i_5 : Nat) : Int) : Int)) h9) (cj h10 (cj h11 (cj h12 (cj (bnot_f h13) (cj (bnot_f h13) (cj (bnot_f h13) (cj h14 (cj (bnot_f h13) (cj (bnot_f h13) (cj (bnot_f h13) (cj (bnot_f h13) (cj (o_at (lcell ARat.cells) (Eq.refl (((i_5 : Nat) : Int) : Int)) h9) (cj (bnot_f h13) (cj (bnot_f h13) (cj (bnot_f h13) (cj h15 (cj (bnot_f h13) (cj (bnot_f h13) (cj (bnot_f h13) (cj (bnot_f h13) (cj h16 (cj (bnot_f h13) (cj h17 (cj (bnot_f h13) (cj (bnot_f h13) (cj (bnot_t h18) True.intro)))))))))))))))))))))))))))))))))))) (by kernel_rfl)
theorem l12 (i_5 : Nat) (c : ACam) (der1 : ALaw) (of pil squ ove pih squ1 ove1 : ARat) (rad v add : List ARat) (len : ARat) (pos : Bool) (rad1 add1 : List ARat) (len1 : ARat) (pos1 : Bool) {r : PV} (h1 : i_5 < c.lift.pieces.length) (h2 : Contract prg 123 [] pil.pv) (h3 : Contract prg 132 [pil.pv] squ.pv) (h4 : Contract prg 131 [of.pv, squ.pv] ove.pv) (h5 : Contract prg 122 [] pih.pv) (h6 : Contract prg 132 [pih.pv] squ1.pv) (h7 : Contract prg 131 [of.pv, squ1.pv] ove1.pv) (h8 : Contract prg 128 [c.pv, (vI (i_5 : Int))] (polyPV rad)) (h9 : der1.pieces[i_5]? = some v) (h10 : Contract prg 133 [(polyPV rad), (polyPV v), ove.pv] (polyPV add)) (h11 : Contract prg 129 [c.lift.pv, (vI (i_5 : Int))] len.pv) (h12 : Contract prg 127 [(polyPV add), len.pv] (vB pos)) (h13 : pos = true) (h14 : Contract prg 128 [c.pv, (vI (i_5 : Int))] (polyPV rad1)) (h15 : Contract prg 133 [(polyPV rad1), (polyPV v), ove1.pv] (polyPV add1)) (h16 : Contract prg 129 [c.lift.pv, (vI (i_5 : Int))] len1.pv) (h17 : Contract prg 127 [(polyPV add1), len1.pv] (vB pos1)) (h18 : pos1 = true) (h19 : (i_5 + 1) < 9223372036854775808) (hL : Loop1 (i_5 + 1) c der1 of r) : Loop1 i_5 c der1 of r :=
  L.go mixed tabOk (n := 141) (ns := [1, 1, 1, 1, 1, 1, 1, 1, 1, 3, 1, 1, 1, 1, 1, 1, 1, 1, 1, 1, 1, 3, 1, 1, 1, 1, 1, 1, 1, 1, 1, 1, 1, 1, 1, 1, 1]) (tr := [.auto, .reg [.none, .none, .none, .none, (iI (c.lift.pieces.length : Int))], .dec true, dr 10 2 [.none, (.pv pil.pv), (.pv squ.pv), (.pv ove.pv), .none, (.pv pih.pv), (.pv squ1.pv), (.pv ove1.pv)], dr 34 0 [.none, .none, (.pv (polyPV rad)), .none, .none, .none, (.row i_5 ((lcell ARat.cells) v)), .none, .none, (.pv (polyPV add)), .none, .none, .none, (.pv len.pv), (.pv (vB pos)), .none, .none, .none, .none, (.pv (polyPV rad1)), .none, .none, .none, (.row i_5 ((lcell ARat.cells) v)), .none, .none, (.pv (polyPV add1)), .none, .none, .none, (.pv len1.pv), (.pv (vB pos1)), .none, (.dec false)], .dec false, .reg [.none, (iI (((i_5 + 1) : Nat) : Int))], .keep [1, 3, 4, 5], .drop [7, 6]]) (cj (o_len (lcell ARat.cells) c.lift.pieces) (cj (dltN_t h1) (cj h2 (cj h3 (cj h4 (cj h5 (cj h6 (cj h7 (cj h8 (cj (o_at (lcell ARat.cells) (Eq.refl (((i_5 : Nat) : Int) : Int)) h9) (cj h10 (cj h11 (cj h12 (cj (bnot_f h13) (cj (bnot_f h13) (cj (bnot_f h13) (cj h14 (cj (bnot_f h13) (cj (bnot_f h13) (cj (bnot_f h13) (cj (bnot_f h13) (cj (o_at (lcell ARat.cells) (Eq.refl (((i_5 : Nat) : Int) : Int)) h9) (cj (bnot_f h13) (cj (bnot_f h13) (cj (bnot_f h13) (cj h15 (cj (bnot_f h13) (cj (bnot_f h13) (cj (bnot_f h13) (cj (bnot_f h13) (cj h16 (cj (bnot_f h13) (cj h17 (cj (bnot_f h13) (cj (bnot_f h13) (cj (bnot_f h18) (cj (bs_addN h19) True.intro))))))))))))))))))))))))))))))))))))) (by kernel_rfl) hL
theorem l13 (i_5 : Nat) (c : ACam) (der1 : ALaw) (of : ARat) (h1 : c.lift.pieces.length ≤ i_5) : Loop1 i_5 c der1 of (vB true) :=
  L.done mixed tabOk (n := 126) (ns := [1, 1]) (tr := [.auto, .reg [.none, .none, .none, .none, (iI (c.lift.pieces.length : Int))], .dec false, .reg []]) (cj (o_len (lcell ARat.cells) c.lift.pieces) (cj (dltN_f h1) True.intro)) (by kernel_rfl)
end linkworkref53_Convex
namespace linkworkref53_Within
@[reducible] noncomputable def fn : Func := Tryz.f61
noncomputable def atK1 : List Itm := focus [0, 2, 0, 0, 2, 1, 2, 0, 2, 0, 2, 0, 0, 2, 0, 0] [.code (bodyOf fn)]
def inv1 (i_7 : Nat) (c : ACam) (mul1 : ARat) (der : ALaw) : St := ⟨[(2, (.ptr 2 0)), (5, (.ptr 5 0)), (6, (.ptr 6 0)), (7, (eI (i_7 : Int)))], [(2, (.lit [(eB c.base.neg), (.pv (wordsPV c.base.num)), (.pv (wordsPV c.base.den)), (.pv (polyPV c.lift.breaks)), (.pv (lpv (lcell ARat.cells) c.lift.pieces))])), (5, (.lit [(eB mul1.neg), (.pv (wordsPV mul1.num)), (.pv (wordsPV mul1.den))])), (6, (.lit [(.pv (polyPV der.breaks)), (.pv (lpv (lcell ARat.cells) der.pieces))]))]⟩
@[reducible] noncomputable def Loop1 (i_7 : Nat) (c : ACam) (mul1 : ARat) (der : ALaw) (r : PV) : Prop := L prg fn atK1 (inv1 i_7 c mul1 der) r
theorem e0 (c : ACam) (limit : ARat) (pos : Bool) (h1 : Contract prg 57 [c.pv] (vB pos)) (h2 : pos = false) : Contract prg 61 [c.pv, limit.pv] (vB false) :=
  Contract.ofL Tryz.func61 (by kernel_rfl) (L.done mixed tabOk (n := 84) (ns := [1, 1]) (tr := [.reg [], .reg [.none, (.pv (vB pos))], .dec true, .reg []]) (cj h1 (cj (bnot_t h2) True.intro)) (by kernel_rfl))
theorem e1 (c : ACam) (limit : ARat) (pos : Bool) (of pil mul mul1 : ARat) (der : ALaw) {r : PV} (h1 : Contract prg 57 [c.pv] (vB pos)) (h2 : pos = true) (h3 : Contract prg 70 [(vI 2)] of.pv) (h4 : Contract prg 123 [] pil.pv) (h5 : Contract prg 88 [of.pv, pil.pv] mul.pv) (h6 : Contract prg 88 [mul.pv, limit.pv] mul1.pv) (h7 : Contract prg 130 [c.lift.pv] der.pv) (hL : Loop1 0 c mul1 der r) : Contract prg 61 [c.pv, limit.pv] r :=
  Contract.ofL Tryz.func61 (by kernel_rfl) (L.go mixed tabOk (n := 108) (ns := [1, 1, 1, 1, 1, 1, 1]) (tr := [.reg [], .reg [.none, (.pv (vB pos))], .dec false, dr 6 1 [(.pv of.pv), (.pv pil.pv), (.pv mul.pv), .none, (.pv mul1.pv)], .reg [.none, .none, (.pv der.pv)], .reg [], .keep [2, 5, 6, 7], .drop [3], .ord [2, 5, 6]]) (cj h1 (cj (bnot_f h2) (cj h3 (cj h4 (cj h5 (cj h6 (cj h7 True.intro))))))) (by kernel_rfl) hL)
theorem l10 (i_7 : Nat) (c : ACam) (mul1 : ARat) (der : ALaw) (rad add v : List ARat) (of : ARat) (add1 : List ARat) (len : ARat) (pos : Bool) (h1 : i_7 < c.lift.pieces.length) (h2 : Contract prg 128 [c.pv, (vI (i_7 : Int))] (polyPV rad)) (h3 : Contract prg 133 [(polyPV []), (polyPV rad), mul1.pv] (polyPV add)) (h4 : der.pieces[i_7]? = some v) (h5 : Contract prg 70 [(vI 1)] of.pv) (h6 : Contract prg 133 [(polyPV add), (polyPV v), of.pv] (polyPV add1)) (h7 : Contract prg 129 [c.lift.pv, (vI (i_7 : Int))] len.pv) (h8 : Contract prg 127 [(polyPV add1), len.pv] (vB pos)) (h9 : pos = false) : Loop1 i_7 c mul1 der (vB false) :=
  L.done mixed tabOk (n := 153) (ns := [1, 1, 1, 1, 3, 1, 1, 1, 1, 1, 1, 1, 1, 1, 1, 1, 1, 1, 1, 1, 1, 1, 1, 1]) (tr := [.auto, .reg [.none, .none, .none, .none, (iI (c.lift.pieces.length : Int))], .dec true, dr 5 1 [.none, .none, (.pv (polyPV rad)), .none, (.pv (polyPV add))], dr 30 0 [.none, .none, .none, .none, (.row i_7 ((lcell ARat.cells) v)), .none, (.pv of.pv), (.pv (polyPV add1)), .none, .none, .none, (.pv len.pv), (.pv (vB pos)), .none, .none, .skip, .skip, .skip, .skip, .skip, .skip, .skip, .skip, .skip, .skip, .skip, .skip, .skip, .skip, (.dec true)], .auto, .reg []]) (cj (o_len (lcell ARat.cells) c.lift.pieces) (cj (dltN_t h1) (cj h2 (cj h3 (cj (o_at (lcell ARat.cells) (Eq.refl (((i_7 : Nat) : Int) : Int)) h4) (cj h5 (cj h6 (cj h7 (cj h8 (cj (bnot_t h9) (cj (bnot_t h9) (cj (bnot_t h9) (cj (bnot_t h9) (cj (bnot_t h9) (cj (bnot_t h9) (cj (bnot_t h9) (cj (bnot_t h9) (cj (bnot_t h9) (cj (bnot_t h9) (cj (bnot_t h9) (cj (bnot_t h9) (cj (bnot_t h9) (cj (bnot_t h9) (cj (bnot_t h9) True.intro)))))))))))))))))))))))) (by kernel_rfl)
theorem l11 (i_7 : Nat) (c : ACam) (mul1 : ARat) (der : ALaw) (rad add v : List ARat) (of : ARat) (add1 : List ARat) (len : ARat) (pos : Bool) (of1 : ARat) (add2 : List ARat) (len1 : ARat) (pos1 : Bool) (h1 : i_7 < c.lift.pieces.length) (h2 : Contract prg 128 [c.pv, (vI (i_7 : Int))] (polyPV rad)) (h3 : Contract prg 133 [(polyPV []), (polyPV rad), mul1.pv] (polyPV add)) (h4 : der.pieces[i_7]? = some v) (h5 : Contract prg 70 [(vI 1)] of.pv) (h6 : Contract prg 133 [(polyPV add), (polyPV v), of.pv] (polyPV add1)) (h7 : Contract prg 129 [c.lift.pv, (vI (i_7 : Int))] len.pv) (h8 : Contract prg 127 [(polyPV add1), len.pv] (vB pos)) (h9 : pos = true) (h10 : Contract prg 70 [(vI (-1))] of1.pv) (h11 : Contract prg 133 [(polyPV add), (polyPV v), of1.pv] (polyPV add2)) (h12 : Contract prg 129 [c.lift.pv, (vI (i_7 : Int))] len1.pv) (h13 : Contract prg 127 [(polyPV add2), len1.pv] (vB pos1)) (h14 : pos1 = false) : Loop1 i_7 c mul1 der (vB false) :=
  L.done mixed tabOk (n := 153) (ns := [1, 1, 1, 1, 3, 1, 1, 1, 1, 1, 1, 1, 1, 1, 3, 1, 1, 1, 1, 1, 1, 1, 1, 1, 1, 1, 1, 1, 1, 1]) (tr := [.auto, .reg [.none, .none, .none, .none, (iI (c.lift.pieces.length : Int))], .dec true, dr 5 1 [.none, .none, (.pv (polyPV rad)), .none, (.pv (polyPV add))], dr 30 0 [.none, .none, .none, .none, (.row i_7 ((lcell ARat.cells) v)), .none, (.pv of.pv), (.pv (polyPV add1)), .none, .none, .none, (.pv len.pv), (.pv (vB pos)), .none, .none, .none, .none, .none, .none, (.row i_7 ((lcell ARat.cells) v)), .none, (.pv of1.pv), (.pv (polyPV add2)), .none, .none, .none, (.pv len1.pv), (.pv (vB pos1)), .none, (.dec false)], .dec true, .reg []]) (cj (o_len (lcell ARat.cells) c.lift.pieces) (cj (dltN_t h1) (cj h2 (cj h3 (cj (o_at (lcell ARat.cells) (Eq.refl (((i_7 : Nat) : Int) : Int)) h4) (cj h5 (cj h6 (cj h7 (cj h8 (cj (bnot_f h9) (cj (bnot_f h9) (cj (bnot_f h9) (cj (bnot_f h9) (cj (bnot_f h9) (cj (o_at (lcell ARat.cells) (Eq.refl (((i_7 : Nat) : Int) : Int)) h4) (cj (bnot_f h9) (cj (bnot_f h9) (cj h10 (cj (bnot_f h9) (cj h11 (cj (bnot_f h9) (cj (bnot_f h9) (cj (bnot_f h9) (cj (bnot_f h9) (cj h12 (cj (bnot_f h9) (cj h13 (cj (bnot_f h9) (cj (bnot_f h9) (cj (bnot_t h14) True.intro)))))))))))))))))))))))))))))) (by kernel_rfl)
theorem l12 (i_7 : Nat) (c : ACam) (mul1 : ARat) (der : ALaw) (rad add v : List ARat) (of : ARat) (add1 : List ARat) (len : ARat) (pos : Bool) (of1 : ARat) (add2 : List ARat) (len1 : ARat) (pos1 : Bool) {r : PV} (h1 : i_7 < c.lift.pieces.length) (h2 : Contract prg 128 [c.pv, (vI (i_7 : Int))] (polyPV rad)) (h3 : Contract prg 133 [(polyPV []), (polyPV rad), mul1.pv] (polyPV add)) (h4 : der.pieces[i_7]? = some v) (h5 : Contract prg 70 [(vI 1)] of.pv) (h6 : Contract prg 133 [(polyPV add), (polyPV v), of.pv] (polyPV add1)) (h7 : Contract prg 129 [c.lift.pv, (vI (i_7 : Int))] len.pv) (h8 : Contract prg 127 [(polyPV add1), len.pv] (vB pos)) (h9 : pos = true) (h10 : Contract prg 70 [(vI (-1))] of1.pv) (h11 : Contract prg 133 [(polyPV add), (polyPV v), of1.pv] (polyPV add2)) (h12 : Contract prg 129 [c.lift.pv, (vI (i_7 : Int))] len1.pv) (h13 : Contract prg 127 [(polyPV add2), len1.pv] (vB pos1)) (h14 : pos1 = true) (h15 : (i_7 + 1) < 9223372036854775808) (hL : Loop1 (i_7 + 1) c mul1 der r) : Loop1 i_7 c mul1 der r :=
  L.go mixed tabOk (n := 156) (ns := [1, 1, 1, 1, 3, 1, 1, 1, 1, 1, 1, 1, 1, 1, 3, 1, 1, 1, 1, 1, 1, 1, 1, 1, 1, 1, 1, 1, 1, 1, 1]) (tr := [.auto, .reg [.none, .none, .none, .none, (iI (c.lift.pieces.length : Int))], .dec true, dr 5 1 [.none, .none, (.pv (polyPV rad)), .none, (.pv (polyPV add))], dr 30 0 [.none, .none, .none, .none, (.row i_7 ((lcell ARat.cells) v)), .none, (.pv of.pv), (.pv (polyPV add1)), .none, .none, .none, (.pv len.pv), (.pv (vB pos)), .none, .none, .none, .none, .none, .none, (.row i_7 ((lcell ARat.cells) v)), .none, (.pv of1.pv), (.pv (polyPV add2)), .none, .none, .none, (.pv len1.pv), (.pv (vB pos1)), .none, (.dec false)], .dec false, .reg [.none, (iI (((i_7 + 1) : Nat) : Int))], .keep [2, 5, 6, 7]]) (cj (o_len (lcell ARat.cells) c.lift.pieces) (cj (dltN_t h1) (cj h2 (cj h3 (cj (o_at (lcell ARat.cells) (Eq.refl (((i_7 : Nat) : Int) : Int)) h4) (cj h5 (cj h6 (cj h7 (cj h8 (cj (bnot_f h9) (cj (bnot_f h9) (cj (bnot_f h9) (cj (bnot_f h9) (cj (bnot_f h9) (cj (o_at (lcell ARat.cells) (Eq.refl (((i_7 : Nat) : Int) : Int)) h4) (cj (bnot_f h9) (cj (bnot_f h9) (cj h10 (cj (bnot_f h9) (cj h11 (cj (bnot_f h9) (cj (bnot_f h9) (cj (bnot_f h9) (cj (bnot_f h9) (cj h12 (cj (bnot_f h9) (cj h13 (cj (bnot_f h9) (cj (bnot_f h9) (cj (bnot_f h14) (cj (bs_addN h15) True.intro))))))))))))))))))))))))))))))) (by kernel_rfl) hL
theorem l13 (i_7 : Nat) (c : ACam) (mul1 : ARat) (der : ALaw) (h1 : c.lift.pieces.length ≤ i_7) : Loop1 i_7 c mul1 der (vB true) :=
  L.done mixed tabOk (n := 141) (ns := [1, 1]) (tr := [.auto, .reg [.none, .none, .none, .none, (iI (c.lift.pieces.length : Int))], .dec false, .reg []]) (cj (o_len (lcell ARat.cells) c.lift.pieces) (cj (dltN_f h1) True.intro)) (by kernel_rfl)
end linkworkref53_Within
namespace cam_given
theorem e1 (c : ACam) (x : ARat) (val : Bool) (h1 : Contract prg 47 [c.pv] .nilI) (h2 : Contract prg 97 [x.pv] (vB val)) (h3 : val = true) : Contract prg 106 [c.pv, x.pv] .nilI :=
  Contract.ofL Tryz.func106 (by kernel_rfl) (L.done mixed tabOk (n := 108) (ns := [1, 1, 1]) (tr := [.reg [], .reg [.none, (.pv .nilI)], .reg [], .auto, .reg [.none, (.pv (vB val))], .dec false, .reg []]) (cj h1 (cj h2 (cj (bnot_f h3) True.intro))) (by kernel_rfl))
end cam_given
namespace cam_derived
@[reducible] noncomputable def fn : Func := Tryz.f108
noncomputable def atK1 : List Itm := focus [0, 2, 0, 0, 2, 0, 0] [.code (bodyOf fn)]
def inv1 (n : Int) (t_11 : Nat) (site_3 : ALaw) (x : ARat) : St := ⟨[(3, (.ptr 3 0)), (5, (.ptr 5 0)), (6, (.ptr 6 0)), (10, (eI n)), (11, (eI (t_11 : Int)))], [(3, (.lit [(.pv (polyPV site_3.breaks)), (.pv (lpv (lcell ARat.cells) site_3.pieces))])), (5, (.lit [(eB x.neg), (.pv (wordsPV x.num)), (.pv (wordsPV x.den))])), (6, (.lit [(eB false), (.pv (.list [])), (.pv (.list []))]))]⟩
@[reducible] noncomputable def Loop1 (n : Int) (t_11 : Nat) (site_3 : ALaw) (x : ARat) (r : PV) : Prop := L prg fn atK1 (inv1 n t_11 site_3 x) r
theorem e0 (l : ALaw) (n : Int) (x : ARat) {r : PV}  (hL : Loop1 n 0 l x r) : Contract prg 108 [l.pv, (vI n), x.pv] r :=
  Contract.ofL Tryz.func108 (by kernel_rfl) (L.go mixed tabOk (n := 81) (ns := []) (tr := [.reg [], .reg [], .keep [3, 5, 6, 10, 11], .ord [3, 5, 6]]) True.intro (by kernel_rfl) hL)
theorem l10 (n : Int) (t_11 : Nat) (site_3 : ALaw) (x : ARat) (der : ALaw) {r : PV} (h1 : (t_11 : Int) < n) (h2 : Contract prg 185 [site_3.pv] (.tup [der.pv, .nilI])) (h3 : (t_11 + 1) < 9223372036854775808) (hL : Loop1 n (t_11 + 1) der x r) : Loop1 n t_11 site_3 x r :=
  L.go mixed tabOk (n := 135) (ns := [1, 1, 1]) (tr := [.auto, .reg [], .dec true, .reg [.none, (.pv (.tup [der.pv, .nilI]))], .reg [], .auto, .reg [], .reg [(iI (((t_11 + 1) : Nat) : Int))], .keep [3, 5, 6, 10, 11], .drop [8]]) (cj (dlt_t h1) (cj h2 (cj (bs_addN h3) True.intro))) (by kernel_rfl) hL
theorem l12 (n : Int) (t_11 : Nat) (site_3 : ALaw) (x atV : ARat) (atV1 : Option Int) (h1 : n ≤ (t_11 : Int)) (h2 : Contract prg 107 [site_3.pv, x.pv] (.tup [atV.pv, (errPV atV1)])) : Loop1 n t_11 site_3 x (.tup [atV.pv, (errPV atV1)]) :=
  L.done mixed tabOk (n := 114) (ns := [1, 1]) (tr := [.auto, .reg [], .dec false, .reg [.none, .none, (.pv (.tup [atV.pv, (errPV atV1)]))]]) (cj (dlt_f h1) (cj h2 True.intro)) (by kernel_rfl)
end cam_derived
namespace cam_high
theorem e0 (rat : ARat) (h1 : Contract prg 187 [(vI 355), (vI 113)] rat.pv) : Contract prg 110 [] rat.pv :=
  Contract.ofL Tryz.func110 (by kernel_rfl) (L.done mixed tabOk (n := 72) (ns := [1]) (tr := [.reg [], .reg [(.pv rat.pv)]]) (cj h1 True.intro) (by kernel_rfl))
end cam_high
namespace cam_low
theorem e0 (rat : ARat) (h1 : Contract prg 187 [(vI 333), (vI 106)] rat.pv) : Contract prg 111 [] rat.pv :=
  Contract.ofL Tryz.func111 (by kernel_rfl) (L.done mixed tabOk (n := 72) (ns := [1]) (tr := [.reg [], .reg [(.pv rat.pv)]]) (cj h1 True.intro) (by kernel_rfl))
end cam_low
namespace cam_enclose
theorem e0 (a b : ARat) (poi poi1 hul : ARange) (h1 : Contract prg 189 [a.pv] poi.pv) (h2 : Contract prg 189 [b.pv] poi1.pv) (h3 : Contract prg 188 [poi.pv, poi1.pv] hul.pv) : Contract prg 112 [a.pv, b.pv] hul.pv :=
  Contract.ofL Tryz.func112 (by kernel_rfl) (L.done mixed tabOk (n := 72) (ns := [1, 1, 1]) (tr := [.reg [], dr 5 1 [.none, (.pv poi.pv), .none, (.pv poi1.pv), (.pv hul.pv)]]) (cj h1 (cj h2 (cj h3 True.intro))) (by kernel_rfl))
end cam_enclose
namespace cam_square
theorem e0 (pi of of1 mul mul1 div : ARat) (div1 : Option Int) (h1 : Contract prg 73 [(vI 1)] of.pv) (h2 : Contract prg 73 [(vI 4)] of1.pv) (h3 : Contract prg 85 [pi.pv, pi.pv] mul.pv) (h4 : Contract prg 85 [of1.pv, mul.pv] mul1.pv) (h5 : Contract prg 109 [of.pv, mul1.pv] (.tup [div.pv, (errPV div1)])) : Contract prg 113 [pi.pv] div.pv :=
  Contract.ofL Tryz.func113 (by kernel_rfl) (L.done mixed tabOk (n := 78) (ns := [1, 1, 1, 1, 1]) (tr := [.reg [], dr 12 1 [(.pv of.pv), (.pv of1.pv), .none, .none, (.pv mul.pv), (.pv mul1.pv), (.pv (.tup [div.pv, (errPV div1)]))], .reg []]) (cj h1 (cj h2 (cj h3 (cj h4 (cj h5 True.intro))))) (by kernel_rfl))
end cam_square
namespace linkworkref53_PiHi
theorem e0 (of of1 ove : ARat) (h1 : Contract prg 70 [(vI 355)] of.pv) (h2 : Contract prg 70 [(vI 113)] of1.pv) (h3 : Contract prg 131 [of.pv, of1.pv] ove.pv) : Contract prg 122 [] ove.pv :=
  Contract.ofL Tryz.func122 (by kernel_rfl) (L.done mixed tabOk (n := 72) (ns := [1, 1, 1]) (tr := [.reg [], .reg [(.pv of.pv), (.pv of1.pv), (.pv ove.pv)]]) (cj h1 (cj h2 (cj h3 True.intro))) (by kernel_rfl))
end linkworkref53_PiHi
namespace linkworkref53_PiLo
theorem e0 (of of1 ove : ARat) (h1 : Contract prg 70 [(vI 333)] of.pv) (h2 : Contract prg 70 [(vI 106)] of1.pv) (h3 : Contract prg 131 [of.pv, of1.pv] ove.pv) : Contract prg 123 [] ove.pv :=
  Contract.ofL Tryz.func123 (by kernel_rfl) (L.done mixed tabOk (n := 72) (ns := [1, 1, 1]) (tr := [.reg [], .reg [(.pv of.pv), (.pv of1.pv), (.pv ove.pv)]]) (cj h1 (cj h2 (cj h3 True.intro))) (by kernel_rfl))
end linkworkref53_PiLo
namespace cam_all
@[reducible] noncomputable def fn : Func := Tryz.f126
noncomputable def atK1 : List Itm := focus [0, 2, 0, 2, 0, 0, 2, 0, 0] [.code (bodyOf fn)]
def inv1 (n : Int) (t_22 : Nat) (c : ACam) (byV f : ARat) (site_10 : ALaw) : St := ⟨[(4, (.ptr 4 0)), (5, (.ptr 5 0)), (6, (.ptr 6 0)), (10, (.ptr 10 0)), (21, (eI n)), (22, (eI (t_22 : Int)))], [(4, (.lit [(eB c.base.neg), (.pv (wordsPV c.base.num)), (.pv (wordsPV c.base.den)), (.pv (polyPV c.lift.breaks)), (.pv (lpv (lcell ARat.cells) c.lift.pieces))])), (5, (.lit [(eB byV.neg), (.pv (wordsPV byV.num)), (.pv (wordsPV byV.den))])), (6, (.lit [(eB f.neg), (.pv (wordsPV f.num)), (.pv (wordsPV f.den))])), (10, (.lit [(.pv (polyPV site_10.breaks)), (.pv (lpv (lcell ARat.cells) site_10.pieces))]))]⟩
@[reducible] noncomputable def Loop1 (n : Int) (t_22 : Nat) (c : ACam) (byV f : ARat) (site_10 : ALaw) (r : PV) : Prop := L prg fn atK1 (inv1 n t_22 c byV f site_10) r
noncomputable def atK2 : List Itm := focus [0, 2, 0, 2, 0, 0, 2, 0, 0, 0, 0, 2, 0, 1, 2, 2, 2, 2, 0, 0, 2, 0, 0] [.code (bodyOf fn)]
def inv2 (c : ACam) (t_38 : Nat) (byV f : ARat) (site_10 : ALaw) : St := ⟨[(4, (.ptr 4 0)), (5, (.ptr 5 0)), (6, (.ptr 6 0)), (10, (.ptr 10 0)), (36, (.pv (lpv (lcell ARat.cells) c.lift.pieces))), (37, (eI (c.lift.pieces.length : Int))), (38, (eI (t_38 : Int)))], [(4, (.lit [(eB c.base.neg), (.pv (wordsPV c.base.num)), (.pv (wordsPV c.base.den)), (.pv (polyPV c.lift.breaks)), (.pv (lpv (lcell ARat.cells) c.lift.pieces))])), (5, (.lit [(eB byV.neg), (.pv (wordsPV byV.num)), (.pv (wordsPV byV.den))])), (6, (.lit [(eB f.neg), (.pv (wordsPV f.num)), (.pv (wordsPV f.den))])), (10, (.lit [(.pv (polyPV site_10.breaks)), (.pv (lpv (lcell ARat.cells) site_10.pieces))]))]⟩
@[reducible] noncomputable def Loop2 (c : ACam) (t_38 : Nat) (byV f : ARat) (site_10 : ALaw) (r : PV) : Prop := L prg fn atK2 (inv2 c t_38 byV f site_10) r
theorem e0 (c : ACam) (byV f : ARat) (n : Int) {r : PV}  (hL : Loop1 n 0 c byV f c.lift r) : Contract prg 126 [c.pv, byV.pv, f.pv, (vI n)] r :=
  Contract.ofL Tryz.func126 (by kernel_rfl) (L.go mixed tabOk (n := 87) (ns := []) (tr := [.reg [], .reg [], .reg [], .keep [4, 5, 6, 10, 21, 22], .ord [4, 5, 6, 10]]) True.intro (by kernel_rfl) hL)
theorem l10 (n : Int) (t_22 : Nat) (c : ACam) (byV f : ARat) (site_10 der : ALaw) {r : PV} (h1 : (t_22 : Int) < n) (h2 : Contract prg 185 [site_10.pv] (.tup [der.pv, .nilI])) (h3 : (t_22 + 1) < 9223372036854775808) (hL : Loop1 n (t_22 + 1) c byV f der r) : Loop1 n t_22 c byV f site_10 r :=
  L.go mixed tabOk (n := 141) (ns := [1, 1, 1]) (tr := [.auto, .reg [], .dec true, .reg [.none, (.pv (.tup [der.pv, .nilI]))], .reg [], .auto, .reg [], .reg [(iI (((t_22 + 1) : Nat) : Int))], .keep [4, 5, 6, 10, 21, 22], .drop [11]]) (cj (dlt_t h1) (cj h2 (cj (bs_addN h3) True.intro))) (by kernel_rfl) hL
theorem l12 (n : Int) (t_22 : Nat) (c : ACam) (byV f : ARat) (site_10 : ALaw) {r : PV} (h1 : n ≤ (t_22 : Int)) (hL : Loop2 c 0 byV f site_10 r) : Loop1 n t_22 c byV f site_10 r :=
  L.go mixed tabOk (n := 129) (ns := [1, 1]) (tr := [.auto, .reg [], .dec false, .reg [.none, .none, .none, (iI (c.lift.pieces.length : Int))], .keep [4, 5, 6, 10, 36, 37, 38]]) (cj (dlt_f h1) (cj (o_len (lcell ARat.cells) c.lift.pieces) True.intro)) (by kernel_rfl) hL
theorem l20 (c : ACam) (t_38 : Nat) (byV f : ARat) (site_10 : ALaw) (v v1 com : List ARat) (of v2 v3 sub : ARat) (pos : Bool) (h1 : t_38 < c.lift.pieces.length) (h2 : c.lift.pieces[t_38]? = some v) (h3 : site_10.pieces[t_38]? = some v1) (h4 : Contract prg 198 [c.base.pv, byV.pv, (polyPV v), f.pv, (polyPV v1)] (.tup [(polyPV com), .nilI])) (h5 : Contract prg 73 [(vI 1)] of.pv) (h6 : (t_38 + 1) < 9223372036854775808) (h7 : (t_38 + 1) < c.lift.breaks.length) (h8 : c.lift.breaks[(t_38 + 1)]? = some v2) (h9 : c.lift.breaks[t_38]? = some v3) (h10 : Contract prg 146 [v2.pv, v3.pv] sub.pv) (h11 : Contract prg 199 [(polyPV com), sub.pv] (.tup [(vB pos), .nilI])) (h12 : pos = false) : Loop2 c t_38 byV f site_10 (.tup [(vB false), .nilI]) :=
  L.done mixed tabOk (n := 222) (ns := [1, 3, 3, 1, 1, 1, 1, 1, 1, 3, 3, 1, 1, 1, 1, 1]) (tr := [.auto, .reg [], .dec true, .reg [.none, (.row t_38 ((lcell ARat.cells) v))], dr 15 1 [.none, .none, .none, .none, .none, .none, .none, .none, (.row t_38 ((lcell ARat.cells) v1)), .none, (.pv (.tup [(polyPV com), .nilI]))], .reg [], .auto, .reg [(.pv of.pv)], .reg [.none, (iI (((t_38 + 1) : Nat) : Int)), .none, .none, .none, (iI (c.lift.breaks.length : Int))], .dec true, .reg [.none, .none, .none, .none, (iI (((t_38 + 1) : Nat) : Int)), (.row (t_38 + 1) (ARat.cells v2))], dr 14 1 [.none, .none, .none, .none, .none, .none, (.row t_38 (ARat.cells v3)), .none, (.pv sub.pv), (.pv (.tup [(vB pos), .nilI]))], .reg [], .dec true, .reg []]) (cj (dltN_t h1) (cj (o_at (lcell ARat.cells) (Eq.refl (((t_38 : Nat) : Int) : Int)) h2) (cj (o_at (lcell ARat.cells) (Eq.refl (((t_38 : Nat) : Int) : Int)) h3) (cj h4 (cj h5 (cj (bs_addN h6) (cj (o_len ARat.cells c.lift.breaks) (cj (dltN_t h7) (cj (bs_addN h6) (cj (o_at ARat.cells (Eq.refl ((((t_38 + 1) : Nat) : Int) : Int)) h8) (cj (o_at ARat.cells (Eq.refl (((t_38 : Nat) : Int) : Int)) h9) (cj h10 (cj h11 (cj (Eq.refl false) (cj (Eq.refl false) (cj (bnot_t h12) True.intro)))))))))))))))) (by kernel_rfl)
theorem l21 (c : ACam) (t_38 : Nat) (byV f : ARat) (site_10 : ALaw) (v v1 com : List ARat) (of v2 v3 sub : ARat) (pos : Bool) {r : PV} (h1 : t_38 < c.lift.pieces.length) (h2 : c.lift.pieces[t_38]? = some v) (h3 : site_10.pieces[t_38]? = some v1) (h4 : Contract prg 198 [c.base.pv, byV.pv, (polyPV v), f.pv, (polyPV v1)] (.tup [(polyPV com), .nilI])) (h5 : Contract prg 73 [(vI 1)] of.pv) (h6 : (t_38 + 1) < 9223372036854775808) (h7 : (t_38 + 1) < c.lift.breaks.length) (h8 : c.lift.breaks[(t_38 + 1)]? = some v2) (h9 : c.lift.breaks[t_38]? = some v3) (h10 : Contract prg 146 [v2.pv, v3.pv] sub.pv) (h11 : Contract prg 199 [(polyPV com), sub.pv] (.tup [(vB pos), .nilI])) (h12 : pos = true) (hL : Loop2 c (t_38 + 1) byV f site_10 r) : Loop2 c t_38 byV f site_10 r :=
  L.go mixed tabOk (n := 225) (ns := [1, 3, 3, 1, 1, 1, 1, 1, 1, 3, 3, 1, 1, 1, 1, 1, 1]) (tr := [.auto, .reg [], .dec true, .reg [.none, (.row t_38 ((lcell ARat.cells) v))], dr 15 1 [.none, .none, .none, .none, .none, .none, .none, .none, (.row t_38 ((lcell ARat.cells) v1)), .none, (.pv (.tup [(polyPV com), .nilI]))], .reg [], .auto, .reg [(.pv of.pv)], .reg [.none, (iI (((t_38 + 1) : Nat) : Int)), .none, .none, .none, (iI (c.lift.breaks.length : Int))], .dec true, .reg [.none, .none, .none, .none, (iI (((t_38 + 1) : Nat) : Int)), (.row (t_38 + 1) (ARat.cells v2))], dr 14 1 [.none, .none, .none, .none, .none, .none, (.row t_38 (ARat.cells v3)), .none, (.pv sub.pv), (.pv (.tup [(vB pos), .nilI]))], .reg [], .dec false, .reg [(iI (((t_38 + 1) : Nat) : Int))], .keep [4, 5, 6, 10, 36, 37, 38], .drop [17]]) (cj (dltN_t h1) (cj (o_at (lcell ARat.cells) (Eq.refl (((t_38 : Nat) : Int) : Int)) h2) (cj (o_at (lcell ARat.cells) (Eq.refl (((t_38 : Nat) : Int) : Int)) h3) (cj h4 (cj h5 (cj (bs_addN h6) (cj (o_len ARat.cells c.lift.breaks) (cj (dltN_t h7) (cj (bs_addN h6) (cj (o_at ARat.cells (Eq.refl ((((t_38 + 1) : Nat) : Int) : Int)) h8) (cj (o_at ARat.cells (Eq.refl (((t_38 : Nat) : Int) : Int)) h9) (cj h10 (cj h11 (cj (Eq.refl false) (cj (Eq.refl false) (cj (bnot_f h12) (cj (bs_addN h6) True.intro))))))))))))))))) (by kernel_rfl) hL
theorem l23 (c : ACam) (t_38 : Nat) (byV f : ARat) (site_10 : ALaw) (v v1 com : List ARat) (of v2 sub : ARat) (pos : Bool) (h1 : t_38 < c.lift.pieces.length) (h2 : c.lift.pieces[t_38]? = some v) (h3 : site_10.pieces[t_38]? = some v1) (h4 : Contract prg 198 [c.base.pv, byV.pv, (polyPV v), f.pv, (polyPV v1)] (.tup [(polyPV com), .nilI])) (h5 : Contract prg 73 [(vI 1)] of.pv) (h6 : (t_38 + 1) < 9223372036854775808) (h7 : c.lift.breaks.length ≤ (t_38 + 1)) (h8 : c.lift.breaks[t_38]? = some v2) (h9 : Contract prg 146 [of.pv, v2.pv] sub.pv) (h10 : Contract prg 199 [(polyPV com), sub.pv] (.tup [(vB pos), .nilI])) (h11 : pos = false) : Loop2 c t_38 byV f site_10 (.tup [(vB false), .nilI]) :=
  L.done mixed tabOk (n := 222) (ns := [1, 3, 3, 1, 1, 1, 1, 1, 3, 1, 1, 1, 1, 1]) (tr := [.auto, .reg [], .dec true, .reg [.none, (.row t_38 ((lcell ARat.cells) v))], dr 15 1 [.none, .none, .none, .none, .none, .none, .none, .none, (.row t_38 ((lcell ARat.cells) v1)), .none, (.pv (.tup [(polyPV com), .nilI]))], .reg [], .auto, .reg [(.pv of.pv)], .reg [.none, (iI (((t_38 + 1) : Nat) : Int)), .none, .none, .none, (iI (c.lift.breaks.length : Int))], .dec false, dr 14 1 [.none, .none, .none, .none, .none, .none, (.row t_38 (ARat.cells v2)), .none, (.pv sub.pv), (.pv (.tup [(vB pos), .nilI]))], .reg [], .dec true, .reg []]) (cj (dltN_t h1) (cj (o_at (lcell ARat.cells) (Eq.refl (((t_38 : Nat) : Int) : Int)) h2) (cj (o_at (lcell ARat.cells) (Eq.refl (((t_38 : Nat) : Int) : Int)) h3) (cj h4 (cj h5 (cj (bs_addN h6) (cj (o_len ARat.cells c.lift.breaks) (cj (dltN_f h7) (cj (o_at ARat.cells (Eq.refl (((t_38 : Nat) : Int) : Int)) h8) (cj h9 (cj h10 (cj (Eq.refl false) (cj (Eq.refl false) (cj (bnot_t h11) True.intro)))))))))))))) (by kernel_rfl)
theorem l24 (c : ACam) (t_38 : Nat) (byV f : ARat) (site_10 : ALaw) (v v1 com : List ARat) (of v2 sub : ARat) (pos : Bool) {r : PV} (h1 : t_38 < c.lift.pieces.length) (h2 : c.lift.pieces[t_38]? = some v) (h3 : site_10.pieces[t_38]? = some v1) (h4 : Contract prg 198 [c.base.pv, byV.pv, (polyPV v), f.pv, (polyPV v1)] (.tup [(polyPV com), .nilI])) (h5 : Contract prg 73 [(vI 1)] of.pv) (h6 : (t_38 + 1) < 9223372036854775808) (h7 : c.lift.breaks.length ≤ (t_38 + 1)) (h8 : c.lift.breaks[t_38]? = some v2) (h9 : Contract prg 146 [of.pv, v2.pv] sub.pv) (h10 : Contract prg 199 [(polyPV com), sub.pv] (.tup [(vB pos), .nilI])) (h11 : pos = true) (hL : Loop2 c (t_38 + 1) byV f site_10 r) : Loop2 c t_38 byV f site_10 r :=
  L.go mixed tabOk (n := 225) (ns := [1, 3, 3, 1, 1, 1, 1, 1, 3, 1, 1, 1, 1, 1, 1]) (tr := [.auto, .reg [], .dec true, .reg [.none, (.row t_38 ((lcell ARat.cells) v))], dr 15 1 [.none, .none, .none, .none, .none, .none, .none, .none, (.row t_38 ((lcell ARat.cells) v1)), .none, (.pv (.tup [(polyPV com), .nilI]))], .reg [], .auto, .reg [(.pv of.pv)], .reg [.none, (iI (((t_38 + 1) : Nat) : Int)), .none, .none, .none, (iI (c.lift.breaks.length : Int))], .dec false, dr 14 1 [.none, .none, .none, .none, .none, .none, (.row t_38 (ARat.cells v2)), .none, (.pv sub.pv), (.pv (.tup [(vB pos), .nilI]))], .reg [], .dec false, .reg [(iI (((t_38 + 1) : Nat) : Int))], .keep [4, 5, 6, 10, 36, 37, 38], .drop [17]]) (cj (dltN_t h1) (cj (o_at (lcell ARat.cells) (Eq.refl (((t_38 : Nat) : Int) : Int)) h2) (cj (o_at (lcell ARat.cells) (Eq.refl (((t_38 : Nat) : Int) : Int)) h3) (cj h4 (cj h5 (cj (bs_addN h6) (cj (o_len ARat.cells c.lift.breaks) (cj (dltN_f h7) (cj (o_at ARat.cells (Eq.refl (((t_38 : Nat) : Int) : Int)) h8) (cj h9 (cj h10 (cj (Eq.refl false) (cj (Eq.refl false) (cj (bnot_f h11) (cj (bs_addN h6) True.intro))))))))))))))) (by kernel_rfl) hL
theorem l27 (c : ACam) (t_38 : Nat) (byV f : ARat) (site_10 : ALaw) (h1 : c.lift.pieces.length ≤ t_38) : Loop2 c t_38 byV f site_10 (.tup [(vB true), .nilI]) :=
  L.done mixed tabOk (n := 162) (ns := [1]) (tr := [.auto, .reg [], .dec false, .reg []]) (cj (dltN_f h1) True.intro) (by kernel_rfl)
end cam_all
namespace linkworkref53_positive
theorem e0 (p : List ARat) (length : ARat) (h1 : p.length = 0) : Contract prg 127 [(polyPV p), length.pv] (vB false) :=
  Contract.ofL Tryz.func127 (by kernel_rfl) (L.done mixed tabOk (n := 84) (ns := [1, 1, 1, 1, 1, 1, 1]) (tr := [.reg [], .reg [.none, (iI (p.length : Int)), .none, .none, .skip, .skip, .skip, .skip, .skip, (.dec true)], .auto, .reg []]) (cj (o_len ARat.cells p) (cj (deqN_t h1) (cj (deqN_t h1) (cj (deqN_t h1) (cj (deqN_t h1) (cj (deqN_t h1) (cj (deqN_t h1) True.intro))))))) (by kernel_rfl))
theorem e1 (p : List ARat) (length v : ARat) (sig : Int) (h1 : p.length ≠ 0) (h2 : p[0]? = some v) (h3 : Contract prg 59 [v.pv] (vI sig)) (h4 : sig ≤ 0) : Contract prg 127 [(polyPV p), length.pv] (vB false) :=
  Contract.ofL Tryz.func127 (by kernel_rfl) (L.done mixed tabOk (n := 84) (ns := [1, 1, 1, 3, 1, 1, 1, 1, 1, 1]) (tr := [.reg [], .reg [.none, (iI (p.length : Int)), .none, .none, .none, (.row 0 (ARat.cells v)), .none, (.pv (vI sig)), .none, (.dec false)], .dec true, .reg []]) (cj (o_len ARat.cells p) (cj (deqN_f h1) (cj (deqN_f h1) (cj (o_at ARat.cells (Eq.refl (0 : Int)) h2) (cj (deqN_f h1) (cj (deqN_f h1) (cj h3 (cj (deqN_f h1) (cj (deqN_f h1) (cj (dle_t h4) True.intro)))))))))) (by kernel_rfl))
theorem e2 (p : List ARat) (length v : ARat) (sig cou cou1 : Int) (h1 : p.length ≠ 0) (h2 : p[0]? = some v) (h3 : Contract prg 59 [v.pv] (vI sig)) (h4 : 0 < sig) (h5 : Contract prg 165 [(polyPV p), (⟨false, [], []⟩ : ARat).pv, length.pv] (.tup [(vI cou), (vI cou1)])) : Contract prg 127 [(polyPV p), length.pv] (vB (cou == 0)) :=
  Contract.ofL Tryz.func127 (by kernel_rfl) (L.done mixed tabOk (n := 93) (ns := [1, 1, 1, 3, 1, 1, 1, 1, 1, 1, 1]) (tr := [.reg [], .reg [.none, (iI (p.length : Int)), .none, .none, .none, (.row 0 (ARat.cells v)), .none, (.pv (vI sig)), .none, (.dec false)], .dec false, .reg [.none, .none, .none, (.pv (.tup [(vI cou), (vI cou1)]))], .reg []]) (cj (o_len ARat.cells p) (cj (deqN_f h1) (cj (deqN_f h1) (cj (o_at ARat.cells (Eq.refl (0 : Int)) h2) (cj (deqN_f h1) (cj (deqN_f h1) (cj h3 (cj (deqN_f h1) (cj (deqN_f h1) (cj (dle_f h4) (cj h5 True.intro))))))))))) (by kernel_rfl))
end linkworkref53_positive
namespace linkworkref53_radius
theorem e0 (c : ACam) (i : Int) (tri : List ARat) (k : Nat) (v : List ARat) (of : ARat) (add : List ARat) (h1 : Contract prg 200 [(polyPV [c.base])] (polyPV tri)) (h2 : i = (k : Int)) (h3 : c.lift.pieces[k]? = some v) (h4 : Contract prg 70 [(vI 1)] of.pv) (h5 : Contract prg 133 [(polyPV tri), (polyPV v), of.pv] (polyPV add)) : Contract prg 128 [c.pv, (vI i)] (polyPV add) :=
  Contract.ofL Tryz.func128 (by kernel_rfl) (L.done mixed tabOk (n := 72) (ns := [3, 1, 3, 1, 1]) (tr := [.reg [], dr 12 1 [.none, .none, (.slc 0 0 (([c.base] : List ARat).map ARat.cells)), (.pv (polyPV tri)), .none, .none, .none, .none, (.row k ((lcell ARat.cells) v)), .none, (.pv of.pv), (.pv (polyPV add))]]) (cj (o_bs sz_ARat ([c.base] : List ARat)) (cj h1 (cj (o_at (lcell ARat.cells) h2 h3) (cj h4 (cj h5 True.intro))))) (by kernel_rfl))
end linkworkref53_radius
namespace linkworkref53_length
theorem e0 (l : ALaw) (i : Int) (endV : ARat) (k : Nat) (v sub : ARat) (h1 : Contract prg 201 [l.pv, (vI i)] endV.pv) (h2 : i = (k : Int)) (h3 : l.breaks[k]? = some v) (h4 : Contract prg 173 [endV.pv, v.pv] sub.pv) : Contract prg 129 [l.pv, (vI i)] sub.pv :=
  Contract.ofL Tryz.func129 (by kernel_rfl) (L.done mixed tabOk (n := 72) (ns := [1, 3, 1]) (tr := [.reg [], dr 9 1 [.none, .none, (.pv endV.pv), .none, .none, .none, (.row k (ARat.cells v)), .none, (.pv sub.pv)]]) (cj h1 (cj (o_at ARat.cells h2 h3) (cj h4 True.intro))) (by kernel_rfl))
end linkworkref53_length
namespace linkworkref53_over
theorem e0 (a b div : ARat) (div1 : Int) (h1 : Contract prg 162 [a.pv, b.pv] (.tup [div.pv, (vI div1)])) : Contract prg 131 [a.pv, b.pv] div.pv :=
  Contract.ofL Tryz.func131 (by kernel_rfl) (L.done mixed tabOk (n := 78) (ns := [1]) (tr := [.reg [], .reg [.none, .none, (.pv (.tup [div.pv, (vI div1)]))], .reg []]) (cj h1 True.intro) (by kernel_rfl))
end linkworkref53_over
namespace linkworkref53_square4
theorem e0 (pi of mul mul1 : ARat) (h1 : Contract prg 70 [(vI 4)] of.pv) (h2 : Contract prg 88 [pi.pv, pi.pv] mul.pv) (h3 : Contract prg 88 [of.pv, mul.pv] mul1.pv) : Contract prg 132 [pi.pv] mul1.pv :=
  Contract.ofL Tryz.func132 (by kernel_rfl) (L.done mixed tabOk (n := 72) (ns := [1, 1, 1]) (tr := [.reg [], dr 5 1 [(.pv of.pv), .none, .none, (.pv mul.pv), (.pv mul1.pv)]]) (cj h1 (cj h2 (cj h3 True.intro))) (by kernel_rfl))
end linkworkref53_square4
namespace linkworkref53_add
theorem e0 (p q : List ARat) (k : ARat) (sca : List ARat) (sca1 : Int) (add : List ARat) (add1 : Int) (h1 : Contract prg 203 [(polyPV q), k.pv] (.tup [(polyPV sca), (vI sca1)])) (h2 : Contract prg 204 [(polyPV p), (polyPV sca)] (.tup [(polyPV add), (vI add1)])) : Contract prg 133 [(polyPV p), (polyPV q), k.pv] (polyPV add) :=
  Contract.ofL Tryz.func133 (by kernel_rfl) (L.done mixed tabOk (n := 84) (ns := [1, 1]) (tr := [.reg [], .reg [.none, .none, (.pv (.tup [(polyPV sca), (vI sca1)]))], .reg [.none, .none, (.pv (.tup [(polyPV add), (vI add1)]))], .reg []]) (cj h1 (cj h2 True.intro)) (by kernel_rfl))
end linkworkref53_add
namespace cam_ratio
theorem e0 (n d : Int) (mak : ARat) (mak1 : Option Int) (h1 : Contract prg 215 [(vI n), (vI d)] (.tup [mak.pv, (errPV mak1)])) : Contract prg 187 [(vI n), (vI d)] mak.pv :=
  Contract.ofL Tryz.func187 (by kernel_rfl) (L.done mixed tabOk (n := 78) (ns := [1]) (tr := [.reg [], .reg [.none, .none, (.pv (.tup [mak.pv, (errPV mak1)]))], .reg []]) (cj h1 True.intro) (by kernel_rfl))
end cam_ratio
namespace cam_combined
theorem e0 (base byV : ARat) (p : List ARat) (f : ARat) (q tri add sca sca2 add2 : List ARat) (add3 : Option Int) (h1 : Contract prg 148 [(polyPV [base])] (polyPV tri)) (h2 : Contract prg 33 [(polyPV tri), (polyPV p)] (.tup [(polyPV add), .nilI])) (h3 : Contract prg 72 [(polyPV add), byV.pv] (.tup [(polyPV sca), .nilI])) (h4 : Contract prg 72 [(polyPV q), f.pv] (.tup [(polyPV sca2), .nilI])) (h5 : Contract prg 33 [(polyPV sca), (polyPV sca2)] (.tup [(polyPV add2), (errPV add3)])) : Contract prg 198 [base.pv, byV.pv, (polyPV p), f.pv, (polyPV q)] (.tup [(polyPV add2), (errPV add3)]) :=
  Contract.ofL Tryz.func198 (by kernel_rfl) (L.done mixed tabOk (n := 135) (ns := [3, 1, 1, 1, 1, 1]) (tr := [.reg [], .reg [.none, (.slc 0 0 (([base] : List ARat).map ARat.cells)), (.pv (polyPV tri)), .none, (.pv (.tup [(polyPV add), .nilI]))], .reg [], .auto, .reg [.none, .none, (.pv (.tup [(polyPV sca), .nilI]))], .reg [], .auto, .reg [.none, .none, (.pv (.tup [(polyPV sca2), .nilI]))], .reg [], .auto, .reg [.none, .none, (.pv (.tup [(polyPV add2), (errPV add3)]))]]) (cj (o_bs sz_ARat ([base] : List ARat)) (cj h1 (cj h2 (cj h3 (cj h4 (cj h5 True.intro)))))) (by kernel_rfl))
end cam_combined
namespace cam_positive
theorem e0 (q : List ARat) (length eva : ARat) (sig : Int) (h1 : Contract prg 27 [(polyPV q), (⟨false, [], []⟩ : ARat).pv] (.tup [eva.pv, .nilI])) (h2 : Contract prg 39 [eva.pv] (vI sig)) (h3 : sig ≤ 0) : Contract prg 199 [(polyPV q), length.pv] (.tup [(vB false), .nilI]) :=
  Contract.ofL Tryz.func199 (by kernel_rfl) (L.done mixed tabOk (n := 90) (ns := [1, 1, 1, 1, 1, 1]) (tr := [.reg [], .reg [.none, .none, (.pv (.tup [eva.pv, .nilI]))], .reg [.none, .none, .none, .none, (.pv (vI sig))], .dec true, .reg []]) (cj h1 (cj (Eq.refl false) (cj (Eq.refl false) (cj h2 (cj (Eq.refl false) (cj (dle_t h3) True.intro)))))) (by kernel_rfl))
theorem e1 (q : List ARat) (length eva : ARat) (sig cou : Int) (h1 : Contract prg 27 [(polyPV q), (⟨false, [], []⟩ : ARat).pv] (.tup [eva.pv, .nilI])) (h2 : Contract prg 39 [eva.pv] (vI sig)) (h3 : 0 < sig) (h4 : Contract prg 159 [(polyPV q), (⟨false, [], []⟩ : ARat).pv, length.pv] (.tup [(vI cou), .nilI])) : Contract prg 199 [(polyPV q), length.pv] (.tup [(vB (cou == 0)), .nilI]) :=
  Contract.ofL Tryz.func199 (by kernel_rfl) (L.done mixed tabOk (n := 99) (ns := [1, 1, 1, 1, 1, 1, 1, 1, 1]) (tr := [.reg [], .reg [.none, .none, (.pv (.tup [eva.pv, .nilI]))], .reg [.none, .none, .none, .none, (.pv (vI sig))], .dec false, .reg [.none, .none, .none, (.pv (.tup [(vI cou), .nilI]))], .reg []]) (cj h1 (cj (Eq.refl false) (cj (Eq.refl false) (cj h2 (cj (Eq.refl false) (cj (dle_f h3) (cj h4 (cj (Eq.refl true) (cj (Eq.refl true) True.intro))))))))) (by kernel_rfl))
end cam_positive
end Go.Proofs.YtbgkjomonebfcaaGreat.Sym.Path
namespace Go.Proofs.YtbgkjomonebfcaaGreat.Sym
open Go Path CInt
set_option linter.unusedVariables false
def chkCam (c : ACam) : Int := if chkLaw c.lift = 0 then (if c.base.valid = true ∧ 0 < c.base.val then 0 else 3) else chkLaw c.lift
structure GCam (c : ACam) : Prop where
  law : chkLaw c.lift = 0
  bv : c.base.valid = true
  b0 : 0 < c.base.val
  fb : ht c.base.val ≤ 4
  fl : FitW 1 c.lift
  len : ∀ p ∈ c.lift.pieces, p.length ≤ 6
theorem gcam_chk {c : ACam} (g : GCam c) : chkCam c = 0 := by unfold chkCam; rw [if_pos g.law, if_pos ⟨g.bv, g.b0⟩]
theorem chkCam_zero {c : ACam} (h : chkCam c = 0) : chkLaw c.lift = 0 ∧ c.base.valid = true ∧ 0 < c.base.val := by
  unfold chkCam at h
  by_cases h1 : chkLaw c.lift = 0
  · rw [if_pos h1] at h
    by_cases h2 : c.base.valid = true ∧ 0 < c.base.val
    · exact ⟨h1, h2⟩
    · rw [if_neg h2] at h; cases h
  · rw [if_neg h1] at h; exact absurd h h1
def piLo : Rat := Rat.divInt 333 106
def piHi : Rat := Rat.divInt 355 113
def radC (c : ACam) (x : Rat) : Rat := c.base.val + atW c.lift x
def sqP (pi : Rat) : Rat := 1 / (4 * (pi * pi))
def combL (base byV : Rat) (p : List Rat) (f : Rat) (q : List Rat) : List Rat := trimL (addL (smulL byV (addL [base] p)) (smulL f q))
def posB (p : List Rat) (len : Rat) : Bool := decide (0 < coef p 0) && decide (chg (chainL p) 0 - chg (chainL p) len = 0)
def allF (c : ACam) (byV f : Rat) (d : ALaw) : Nat → Nat → Bool
  | 0, _ => true
  | j + 1, t => bif posB (combL c.base.val byV (pcW c.lift t) f (pcW d t)) (lenW c.lift t) then allF c byV f d j (t + 1) else false
def allC (c : ACam) (byV f : Rat) (d : ALaw) : Bool := allF c byV f d c.lift.pieces.length 0
def tanP (c : ACam) (x pi : Rat) : Rat := atW (deriveW c.lift) x / (2 * radC c x * pi)
def posC (c : ACam) : Bool := allC c 1 0 c.lift
def byW (limit : Rat) : Rat := 2 * (piLo * limit)
def withC (c : ACam) (limit : Rat) : Bool := allC c (byW limit) (-1) (deriveW c.lift) && (allC c (byW limit) 1 (deriveW c.lift) && posC c)
def convC (c : ACam) : Bool := allC c 1 (sqP piLo) (deriveW (deriveW c.lift)) && allC c 1 (sqP piHi) (deriveW (deriveW c.lift))
theorem coef_eval0 : ∀ p : List Rat, coef p 0 = evalL p 0
  | [] => rfl
  | a :: r => by show a = evalL r 0 * 0 + a; grind
theorem combL_len (base byV : Rat) (p : List Rat) (f : Rat) (q : List Rat) {n : Nat} (hn : 1 ≤ n) (hp : p.length ≤ n) (hq : q.length ≤ n) : (combL base byV p f q).length ≤ n := by
  unfold combL
  have := len_trimL (addL (smulL byV (addL [base] p)) (smulL f q))
  rw [len_addL, len_smulL, len_addL, len_smulL] at this
  simp only [List.length_cons, List.length_nil] at this
  omega
theorem combL_fl {base byV f : Rat} {p q : List Rat} {a b k m n : Nat} (hb : ht base ≤ a) (hby : ht byV ≤ k) (hf : ht f ≤ m) (hp : Fl b p) (hq : Fl n q) (ha : 1 ≤ a) (h1 : 1 ≤ b) (hn : 1 ≤ n) : Fl (k + (a + b + 1) + (m + n) + 1) (combL base byV p f q) := by
  have h2 : Fl (a + b + 1) (addL [base] p) := fl_addL (fun x hx => by rw [List.mem_singleton.1 hx]; exact hb) hp ha h1
  have h3 : Fl (k + (a + b + 1)) (smulL byV (addL [base] p)) := fl_mono (fl_smulL h2) (by omega)
  have h4 : Fl (m + n) (smulL f q) := fl_mono (fl_smulL hq) (by omega)
  exact fl_trimL (fl_addL h3 h4 (by omega) (by omega))
theorem fine_of {p : List Rat} (hz : lastZ p = false) (h0 : p ≠ []) (hl : p.length ≤ 6) (hf : Fl 24 p) : Fine 145 6 p := by
  have h1 := Ch.of_fl hf
  have h2 : p.length * 24 ≤ 6 * 24 := Nat.mul_le_mul_right _ hl
  exact ⟨hz, h0, hl, h1.mono (by omega), by omega, by omega, by decide⟩
theorem posB_nil (len : Rat) : posB [] len = false := by
  unfold posB
  rw [decide_eq_false (by exact Rat.lt_irrefl)]; rfl
theorem posB_neg {p : List Rat} {len : Rat} (h : ¬ 0 < coef p 0) : posB p len = false := by unfold posB; rw [decide_eq_false h]; rfl
theorem posB_pos {p : List Rat} {len : Rat} (h : 0 < coef p 0) : posB p len = ((chg (chainL p) 0 - chg (chainL p) len) == 0) := by unfold posB; rw [decide_eq_true h, Bool.true_and]; rfl
theorem pc_len6 {c : ACam} (g : GCam c) (t : Nat) : (pcW c.lift t).length ≤ 6 := by
  unfold pcW
  cases h : c.lift.pieces[t]? with
  | some p => have := g.len p (List.mem_of_getElem? h); show (vals p).length ≤ 6; unfold vals; rw [List.length_map]; exact this
  | none => simp
theorem pc_trim {l : ALaw} (g : Good l) (t : Nat) : lastZ (pcW l t) = false := by
  unfold pcW
  cases h : l.pieces[t]? with
  | some p => exact chk_last (g.ps p (List.mem_of_getElem? h)).1
  | none => rfl
structure GDer (c : ACam) (d : ALaw) : Prop where
  good : chkLaw d = 0
  fit : FitW 5 d
  pcs : d.pieces.length = c.lift.pieces.length
  len : ∀ t, (pcW d t).length ≤ 6
theorem gder0 {c : ACam} (g : GCam c) : GDer c c.lift := ⟨g.law, ⟨fun a ha => ⟨by have := (g.fl.1 a ha).1; omega, by have := (g.fl.1 a ha).2; omega⟩, fun p hp a ha => ⟨by have := (g.fl.2 p hp a ha).1; omega, by have := (g.fl.2 p hp a ha).2; omega⟩⟩, rfl, pc_len6 g⟩
theorem deriveW_len (l : ALaw) : (deriveW l).pieces.length = l.pieces.length := by unfold deriveW; simp
theorem gder1 {c : ACam} (g : GCam c) : GDer c (deriveW c.lift) := by
  have f := fitW_derive (good_of g.law) (by omega) g.fl
  refine ⟨chk_derive g.law, ⟨fun a ha => ⟨by have := (f.1 a ha).1; omega, by have := (f.1 a ha).2; omega⟩, fun p hp a ha => ⟨by have := (f.2 p hp a ha).1; omega, by have := (f.2 p hp a ha).2; omega⟩⟩, deriveW_len _, fun t => ?_⟩
  rw [deriveW_pc]
  have := len_deriveL (pcW c.lift t)
  have := pc_len6 g t
  omega
theorem gder2 {c : ACam} (g : GCam c) : GDer c (deriveW (deriveW c.lift)) := by
  have h1 := gder1 g
  have f := fitW_derive (good_of h1.good) (by omega) (fitW_derive (good_of g.law) (by omega) g.fl)
  refine ⟨chk_derive h1.good, f, by rw [deriveW_len, deriveW_len], fun t => ?_⟩
  rw [deriveW_pc]
  have := len_deriveL (pcW (deriveW c.lift) t)
  have := h1.len t
  omega
theorem fitW_up {l : ALaw} {k m : Nat} (h : FitW k l) (hk : k ≤ m) : FitW m l :=
  ⟨fun a ha => ⟨by have := (h.1 a ha).1; omega, by have := (h.1 a ha).2; omega⟩, fun p hp a ha => ⟨by have := (h.2 p hp a ha).1; omega, by have := (h.2 p hp a ha).2; omega⟩⟩
theorem base_mk {c : ACam} (g : GCam c) : c.base = mkR c.base.val := (mkR_of g.bv).symm
theorem ht_atD {l : ALaw} {x : Rat} (g : Good l) (hf : FitW 5 l) (hx : ht x ≤ 4) : ht (atW l x) ≤ 2000 := by
  rw [atW_eq]
  have b1 := ht_frac hx
  have b2 := ht_brkW hf (by omega) (pieceL (vals l.breaks) (frac x))
  have b3 := ht_sub (frac x) (brkW l (pieceL (vals l.breaks) (frac x)))
  have b4 := ht_eval (pcW l (pieceL (vals l.breaks) (frac x))) (frac x - brkW l (pieceL (vals l.breaks) (frac x))) 20 (fun y hy => Nat.le_trans (fl_pcW hf (by omega) _ y hy) (by omega)) (by omega)
  have b5 : (pcW l (pieceL (vals l.breaks) (frac x))).length * (2 * 20 + 1) ≤ 9 * 41 := Nat.mul_le_mul_right _ (pcW_len g _)
  omega
namespace CCa
theorem Check (c : ACam) (hf : FitW 1073741824 c.lift) (hb : c.base.num.length ≤ 68719476736 ∧ c.base.den.length ≤ 68719476736) : Contract prg 47 [c.pv] (errPV (errOf (chkCam c))) := by
  have hk := CLw.Check c.lift hf
  unfold chkCam
  by_cases h : chkLaw c.lift = 0
  · rw [if_pos h]
    rw [h] at hk
    have hv := CFr.Valid c.base ⟨by omega, by omega⟩
    have hs := CFr.Sign c.base ⟨by omega, by omega⟩
    cases hvb : c.base.valid with
    | false =>
      rw [if_neg (by intro e; cases e.1)]
      exact cam_Check.e0 c _ hk hv hvb
    | true =>
      by_cases h0 : 0 < c.base.val
      · rw [if_pos ⟨rfl, h0⟩]
        exact cam_Check.e2 c _ _ hk hv hvb hs (cmpR_gt.2 h0)
      · rw [if_neg (by intro e; exact h0 e.2)]
        exact cam_Check.e1 c _ _ hk hv hvb hs (cmpR_le.2 (by grind))
  · rw [if_neg h]
    rw [errOf_ne h] at hk ⊢
    exact cam_Check.e3 c _ hk
theorem check {c : ACam} (g : GCam c) : Contract prg 47 [c.pv] .nilI := by
  have hb := fit_mkRk g.fb
  rw [← base_mk g] at hb
  have := Check c (fitW_up g.fl (by omega)) (by omega)
  rwa [gcam_chk g] at this
theorem low : Contract prg 111 [] (mkR piLo).pv := cam_low.e0 _ (cam_ratio.e0 _ _ _ none (QF.Make 333 106 (by unfold InI64; omega) (by unfold InI64; omega) (by omega)))
theorem high : Contract prg 110 [] (mkR piHi).pv := cam_high.e0 _ (cam_ratio.e0 _ _ _ none (QF.Make 355 113 (by unfold InI64; omega) (by unfold InI64; omega) (by omega)))
theorem Radius {c : ACam} (g : GCam c) (x : Rat) (hx : ht x ≤ 4) : Contract prg 43 [c.pv, (mkR x).pv] (.tup [(mkR (radC c x)).pv, .nilI]) := by
  have hx' := fit_mkRk hx
  have hg := cam_given.e1 c (mkR x) _ (check g) (QF.Valid x (by omega)) rfl
  have ha := CLw.At c.lift (mkR x) g.law (fitW_up g.fl (by omega)) (mkR_valid x) (by omega)
  rw [mkR_val] at ha
  have hh := ht_atD (good_of g.law) (fitW_up g.fl (by omega)) hx
  have hfb := g.fb
  have hadd := QF.Add c.base.val (atW c.lift x) (by omega) (by omega)
  rw [← base_mk g] at hadd
  exact cam_Radius.e0 c _ _ _ hg ha hadd
theorem ht_rad {c : ACam} (g : GCam c) {x : Rat} (hx : ht x ≤ 4) : ht (radC c x) ≤ 2005 := by
  have hh := ht_atD (good_of g.law) (fitW_up g.fl (by omega)) hx
  have hfb := g.fb
  have := ht_add c.base.val (atW c.lift x)
  unfold radC; omega
theorem derived1 {c : ACam} (g : GCam c) (x : Rat) (hx : ht x ≤ 4) : Contract prg 108 [c.lift.pv, vI 1, (mkR x).pv] (.tup [(mkR (atW (deriveW c.lift) x)).pv, .nilI]) := by
  have hx' := fit_mkRk hx
  have h1 := gder1 g
  have hd := CLw.Derive c.lift g.law (fitW_up g.fl (by omega))
  have ha := CLw.At (deriveW c.lift) (mkR x) h1.good (fitW_up h1.fit (by omega)) (mkR_valid x) (by omega)
  rw [mkR_val] at ha
  exact cam_derived.e0 _ _ _ (cam_derived.l10 1 0 _ _ _ (by omega) hd (by omega) (cam_derived.l12 1 1 _ _ _ none (by omega) ha))
theorem enclose (a b : Rat) (ha : ht a ≤ 68719476736) (hb : ht b ≤ 68719476736) : Contract prg 112 [(mkR a).pv, (mkR b).pv] (mkG (minR a b) (maxR a b)).pv := by
  have h := CIv.Hull (mkG a a) (mkG b b) (fit_mkG ha ha) (fit_mkG hb hb)
  rw [loG_mk Rat.le_refl, loG_mk Rat.le_refl, hiG_mk Rat.le_refl, hiG_mk Rat.le_refl] at h
  exact cam_enclose.e0 _ _ _ _ _ (CIv.Point a ha) (CIv.Point b hb) h
theorem square (pi : Rat) (hp : ht pi ≤ 4) (h0 : pi ≠ 0) : Contract prg 113 [(mkR pi).pv] (mkR (sqP pi)).pv := by
  have z1 : ht ((1 : Int) : Rat) ≤ 1 := by decide
  have z4 : ht ((4 : Int) : Rat) ≤ 1 := by decide
  have m1 := ht_mul pi pi
  have m2 := ht_mul ((4 : Int) : Rat) (pi * pi)
  have hne : ((4 : Int) : Rat) * (pi * pi) ≠ 0 := by
    intro e
    rcases Rat.mul_eq_zero.1 e with e | e
    · exact absurd e (by decide)
    · rcases Rat.mul_eq_zero.1 e with e | e <;> exact h0 e
  exact cam_square.e0 _ _ _ _ _ _ none (CFr.Of 1 (by unfold InI64; omega)) (CFr.Of 4 (by unfold InI64; omega)) (QF.Mul pi pi (by omega) (by omega)) (QF.Mul _ _ (by omega) (by omega)) (QF.Div _ _ (by omega) (by omega) hne)
theorem Pressure {c : ACam} (g : GCam c) (x : Rat) (hx : ht x ≤ 4) (h : 0 < radC c x) : Contract prg 44 [c.pv, (mkR x).pv] (.tup [(mkG (minR (tanP c x piHi) (tanP c x piLo)) (maxR (tanP c x piHi) (tanP c x piLo))).pv, .nilI]) := by
  have hr := ht_rad g hx
  have hd := ht_atD (good_of (gder1 g).good) (gder1 g).fit hx
  have z2 : ht ((2 : Int) : Rat) ≤ 1 := by decide
  have p1 : ht piHi ≤ 1 := by decide
  have p2 : ht piLo ≤ 1 := by decide
  have m0 := ht_mul ((2 : Int) : Rat) (radC c x)
  have m1 := ht_mul (((2 : Int) : Rat) * radC c x) piHi
  have m2 := ht_mul (((2 : Int) : Rat) * radC c x) piLo
  have n0 : ((2 : Int) : Rat) * radC c x ≠ 0 := by
    intro e
    rcases Rat.mul_eq_zero.1 e with e | e
    · exact absurd e (by decide)
    · rw [e] at h; exact absurd h Rat.lt_irrefl
  have n1 : ((2 : Int) : Rat) * radC c x * piHi ≠ 0 := by
    intro e
    rcases Rat.mul_eq_zero.1 e with e | e
    · exact n0 e
    · exact absurd e (by decide)
  have n2 : ((2 : Int) : Rat) * radC c x * piLo ≠ 0 := by
    intro e
    rcases Rat.mul_eq_zero.1 e with e | e
    · exact n0 e
    · exact absurd e (by decide)
  have d1 := ht_div (atW (deriveW c.lift) x) (((2 : Int) : Rat) * radC c x * piHi)
  have d2 := ht_div (atW (deriveW c.lift) x) (((2 : Int) : Rat) * radC c x * piLo)
  exact cam_Pressure.e1 c _ _ _ _ _ _ _ _ _ _ _ _ _ (Radius g x hx) (QF.Sign _ (by omega)) (cmpR_gt.2 h) (derived1 g x hx) (CFr.Of 2 (by unfold InI64; omega)) (QF.Mul _ _ (by omega) (by omega)) high (QF.Mul _ _ (by omega) (by omega)) (QF.Div _ _ (by omega) (by omega) n1) low (QF.Mul _ _ (by omega) (by omega)) (QF.Div _ _ (by omega) (by omega) n2) (enclose _ _ (by omega) (by omega))
theorem AddQ {a b : Nat} (p q : List Rat) (zp : lastZ p = false) (zq : lastZ q = false) (lp : p.length ≤ 65) (lq : q.length ≤ 65) (hp : Fl a p) (hq : Fl b q) (ha : 1 ≤ a) (hb : 1 ≤ b) (hk : a + b + 2 ≤ 68719476736) : Contract prg 33 [pq p, pq q] (.tup [pq (trimL (addL p q)), .nilI]) := by
  have hck := CPl.checks2 (p.map mkR) (q.map mkR) (fitQ hp (by omega)) (fitQ hq (by omega))
  rw [chk2_zero (chk_map zp lp) (chk_map zq lq)] at hck
  have h := CPl.plus (d := 1) p q ((1 : Int) : Rat) (by omega) (by omega) hp hq (by decide) ha hb (by omega)
  rw [show ((1 : Int) : Rat) = 1 from rfl, smulL_one] at h
  exact poly_Add.e0 _ _ _ _ hck (CFr.Of 1 (by unfold InI64; omega)) h
theorem ScaleQ {a d : Nat} (p : List Rat) (c : Rat) (zp : lastZ p = false) (lp : p.length ≤ 65) (hp : Fl a p) (hc : ht c ≤ d) (ha : 1 ≤ a) (hk : a + d + 2 ≤ 68719476736) : Contract prg 72 [pq p, (mkR c).pv] (.tup [pq (trimL (smulL c p)), .nilI]) := by
  have hck := CPo.Check (p.map mkR) (fitQ hp (by omega))
  rw [chk_map zp lp] at hck
  exact poly_Scale.e0 _ _ _ hck (CPl.plus (a := 1) (d := d) [] p c (by simp) (by omega) (fun x hx => by cases hx) hp hc (by omega) ha (by omega))
theorem comb_same (base byV : Rat) (p : List Rat) (f : Rat) (q : List Rat) : trimL (addL (trimL (smulL byV (trimL (addL (trimL [base]) p)))) (trimL (smulL f q))) = combL base byV p f q :=
  eval_ext (fun x => by simp only [evalL_addL, evalL_trimL, evalL_smulL])
theorem combined {base byV f : Rat} {p q : List Rat} (zp : lastZ p = false) (zq : lastZ q = false) (lp : p.length ≤ 9) (lq : q.length ≤ 9) (hb : ht base ≤ 20) (hby : ht byV ≤ 20) (hf : ht f ≤ 20) (hp : Fl 20 p) (hq : Fl 20 q) : Contract prg 198 [(mkR base).pv, (mkR byV).pv, pq p, (mkR f).pv, pq q] (.tup [pq (combL base byV p f q), .nilI]) := by
  have hb1 : Fl 20 [base] := fun x hx => by rw [List.mem_singleton.1 hx]; exact hb
  have t1 := CPl.Trim [base] (by simp) hb1 (by omega)
  have l1 := len_trimL [base]
  simp only [List.length_cons, List.length_nil] at l1
  have h2 : Fl 41 (addL (trimL [base]) p) := fl_addL (fl_trimL hb1) hp (by omega) (by omega)
  have a1 := AddQ (trimL [base]) p (lastZ_trimL _) zp (by omega) (by omega) (fl_trimL hb1) hp (by omega) (by omega) (by omega)
  have l2 := len_trimL (addL (trimL [base]) p)
  rw [len_addL] at l2
  have s1 := ScaleQ (trimL (addL (trimL [base]) p)) byV (lastZ_trimL _) (by omega) (fl_trimL h2) hby (by omega) (by omega)
  have h3 : Fl 61 (smulL byV (trimL (addL (trimL [base]) p))) := fl_mono (fl_smulL (fl_trimL h2)) (by omega)
  have s2 := ScaleQ q f zq (by omega) hq hf (by omega) (by omega)
  have h4 : Fl 40 (smulL f q) := fl_mono (fl_smulL hq) (by omega)
  have l3 := len_trimL (smulL byV (trimL (addL (trimL [base]) p)))
  rw [len_smulL] at l3
  have l4 := len_trimL (smulL f q)
  rw [len_smulL] at l4
  have a2 := AddQ (trimL (smulL byV (trimL (addL (trimL [base]) p)))) (trimL (smulL f q)) (lastZ_trimL _) (lastZ_trimL _) (by omega) (by omega) (fl_trimL h3) (fl_trimL h4) (by omega) (by omega) (by omega)
  rw [comb_same] at a2
  exact cam_combined.e0 _ _ _ _ _ _ _ _ _ _ none t1 a1 s1 s2 a2
theorem positive {p : List Rat} (hz : lastZ p = false) (hl : p.length ≤ 6) (hf : Fl 24 p) (len : Rat) (h0 : 0 ≤ len) (hh : ht len ≤ 100) : Contract prg 199 [pq p, (mkR len).pv] (.tup [vB (posB p len), .nilI]) := by
  have hev := CPo.Eval (p.map mkR) (mkR 0) (chk_map hz (by omega)) (fit_mapk (fl_mono hf (by omega))) (by constructor <;> decide)
  rw [vals_mkR, mkR_val, ← coef_eval0] at hev
  have hs := QF.Sign (coef p 0) (by have := fl_coef hf (by omega) 0; omega)
  by_cases h : 0 < coef p 0
  · have hne : p ≠ [] := by intro e; rw [e] at h; exact absurd h Rat.lt_irrefl
    have hc := CSt.Count (fine_of hz hne hl hf) 0 len h0 (by decide) (by omega)
    rw [posB_pos h]
    exact cam_positive.e1 _ _ _ _ _ hev hs (cmpR_gt.2 h) hc
  · rw [posB_neg h]
    exact cam_positive.e0 _ _ _ _ hev hs (cmpR_le.2 (by grind))
theorem all2 {c : ACam} (g : GCam c) {byV f : Rat} (hby : ht byV ≤ 7) (hf : ht f ≤ 4) {d : ALaw} (hd : GDer c d) : cam_all.Loop2 c 0 (mkR byV) (mkR f) d (.tup [vB (allC c byV f d), .nilI]) := by
  have gl := good_of g.law
  have gd := good_of hd.good
  have hlen := gl.len
  have hle := gl.le
  have hdp := hd.pcs
  have loop : ∀ (j t : Nat), c.lift.pieces.length - t = j → cam_all.Loop2 c t (mkR byV) (mkR f) d (.tup [vB (allF c byV f d j t), .nilI]) := by
    intro j
    induction j with
    | zero => intro t hj; exact cam_all.l27 c t _ _ _ (by omega)
    | succ j ih =>
      intro t hj
      have ht : t < c.lift.pieces.length := by omega
      obtain ⟨b, p, hb, hp, eb, ep, hcp, h9⟩ := gl.at ht
      obtain ⟨b', p', hb', hp', eb', ep', hcp', h9'⟩ := gd.at (t := t) (by omega)
      rw [ep] at hp
      rw [ep'] at hp'
      rw [eb] at hb
      have l1 := pc_len6 g t
      have l2 := hd.len t
      have f1 := fl_pcW g.fl (by omega) t
      have f2 := fl_pcW hd.fit (by omega) t
      have hfb := g.fb
      have hcomb := combined (base := c.base.val) (pc_trim gl t) (pc_trim gd t) (by omega) (by omega) (by omega) (show Sym.ht byV ≤ 20 by omega) (show Sym.ht f ≤ 20 by omega) (fl_mono f1 (by omega)) (fl_mono f2 (by omega))
      rw [← base_mk g] at hcomb
      have hcl := combL_len c.base.val byV (pcW c.lift t) f (pcW d t) (n := 6) (by omega) l1 l2
      have hcf := combL_fl (base := c.base.val) g.fb hby hf f1 f2 (by omega) (by omega) (by omega)
      have hlp := lenW_pos gl (t := t) (by omega)
      have hlh := ht_lenW g.fl (by omega) t
      have hpo := positive (p := combL c.base.val byV (pcW c.lift t) f (pcW d t)) (lastZ_trimL _) hcl (fl_mono hcf (by omega)) (lenW c.lift t) (Rat.le_of_lt hlp) (by omega)
      have e1 := ht_endW g.fl (by omega) t
      have e2 := ht_brkW g.fl (by omega) t
      have hone := CFr.Of 1 (by unfold InI64; omega)
      have hsub := QF.Sub (endW c.lift t) (brkW c.lift t) (by omega) (by omega)
      rw [allF]
      by_cases hn : t + 1 < c.lift.breaks.length
      · obtain ⟨v, hv⟩ : ∃ v, c.lift.breaks[t + 1]? = some v := ⟨_, List.getElem?_eq_getElem hn⟩
        have ev : v = mkR (endW c.lift t) := by
          unfold endW
          rw [hv, mkR_of (List.all_eq_true.1 gl.valid v (List.mem_of_getElem? hv))]
        rw [ev] at hv
        cases hb : posB (combL c.base.val byV (pcW c.lift t) f (pcW d t)) (lenW c.lift t) with
        | false => exact cam_all.l20 c t _ _ _ _ _ _ _ _ _ _ _ ht hp hp' hcomb hone (by omega) hn hv (by assumption) hsub hpo hb
        | true => exact cam_all.l21 c t _ _ _ _ _ _ _ _ _ _ _ ht hp hp' hcomb hone (by omega) hn hv (by assumption) hsub hpo hb (ih (t + 1) (by omega))
      · have ev : endW c.lift t = ((1 : Int) : Rat) := by
          unfold endW
          rw [List.getElem?_eq_none (by omega)]
        rw [ev] at hsub
        have hpo' := hpo
        have el : lenW c.lift t = ((1 : Int) : Rat) - brkW c.lift t := by unfold lenW; rw [ev]
        rw [el] at hpo'
        cases hb : posB (combL c.base.val byV (pcW c.lift t) f (pcW d t)) (lenW c.lift t) with
        | false => exact cam_all.l23 c t _ _ _ _ _ _ _ _ _ _ ht hp hp' hcomb hone (by omega) (by omega) (by assumption) hsub hpo' (by rw [← el]; exact hb)
        | true => exact cam_all.l24 c t _ _ _ _ _ _ _ _ _ _ ht hp hp' hcomb hone (by omega) (by omega) (by assumption) hsub hpo' (by rw [← el]; exact hb) (ih (t + 1) (by omega))
  exact loop _ 0 rfl
theorem all0 {c : ACam} (g : GCam c) {byV f : Rat} (hby : ht byV ≤ 7) (hf : ht f ≤ 4) : Contract prg 126 [c.pv, (mkR byV).pv, (mkR f).pv, vI 0] (.tup [vB (allC c byV f c.lift), .nilI]) :=
  cam_all.e0 c _ _ _ (cam_all.l12 0 0 c _ _ _ (by omega) (all2 g hby hf (gder0 g)))
theorem all1 {c : ACam} (g : GCam c) {byV f : Rat} (hby : ht byV ≤ 7) (hf : ht f ≤ 4) : Contract prg 126 [c.pv, (mkR byV).pv, (mkR f).pv, vI 1] (.tup [vB (allC c byV f (deriveW c.lift)), .nilI]) := by
  have hd := CLw.Derive c.lift g.law (fitW_up g.fl (by omega))
  exact cam_all.e0 c _ _ _ (cam_all.l10 1 0 c _ _ _ _ (by omega) hd (by omega) (cam_all.l12 1 1 c _ _ _ (by omega) (all2 g hby hf (gder1 g))))
theorem all22 {c : ACam} (g : GCam c) {byV f : Rat} (hby : ht byV ≤ 7) (hf : ht f ≤ 4) : Contract prg 126 [c.pv, (mkR byV).pv, (mkR f).pv, vI 2] (.tup [vB (allC c byV f (deriveW (deriveW c.lift))), .nilI]) := by
  have hd := CLw.Derive c.lift g.law (fitW_up g.fl (by omega))
  have h1 := gder1 g
  have hd2 := CLw.Derive (deriveW c.lift) h1.good (fitW_up h1.fit (by omega))
  exact cam_all.e0 c _ _ _ (cam_all.l10 2 0 c _ _ _ _ (by omega) hd (by omega) (cam_all.l10 2 1 c _ _ _ _ (by omega) hd2 (by omega) (cam_all.l12 2 2 c _ _ _ (by omega) (all2 g hby hf (gder2 g)))))
theorem Positive {c : ACam} (g : GCam c) : Contract prg 54 [c.pv] (.tup [vB (posC c), .nilI]) :=
  cam_Positive.e0 c _ _ none (check g) (CFr.Of 1 (by unfold InI64; omega)) (all0 (byV := ((1 : Int) : Rat)) (f := 0) g (by decide) (by decide))
theorem ht_byW {limit : Rat} (h : ht limit ≤ 4) : ht (byW limit) ≤ 6 := by
  have p2 : ht piLo ≤ 1 := by decide
  have z2 : ht (2 : Rat) ≤ 1 := by decide
  have m1 := ht_mul piLo limit
  have m2 := ht_mul 2 (piLo * limit)
  unfold byW; omega
theorem Within {c : ACam} (g : GCam c) {limit : Rat} (hl : ht limit ≤ 4) (h0 : 0 < limit) : Contract prg 55 [c.pv, (mkR limit).pv] (.tup [vB (withC c limit), .nilI]) := by
  have p2 : ht piLo ≤ 1 := by decide
  have z2 : ht ((2 : Int) : Rat) ≤ 1 := by decide
  have m1 := ht_mul piLo limit
  have hb := ht_byW hl
  have a1 := all1 (byV := byW limit) (f := ((-1 : Int) : Rat)) g (by omega) (by decide)
  have a2 := all1 (byV := byW limit) (f := ((1 : Int) : Rat)) g (by omega) (by decide)
  have o1 := CFr.Of (-1) (by unfold InI64; omega)
  have o2 := CFr.Of 1 (by unfold InI64; omega)
  refine cam_Within.e2 c _ _ _ _ _ _ _ (check g) (QF.Valid limit (by omega)) rfl (QF.Sign limit (by omega)) (cmpR_gt.2 h0) (CFr.Of 2 (by unfold InI64; omega)) low (QF.Mul piLo limit (by omega) (by omega)) (QF.Mul ((2 : Int) : Rat) (piLo * limit) (by omega) (by omega)) ?_
  unfold withC
  cases h1 : allC c (byW limit) (-1) (deriveW c.lift) with
  | false => exact cam_Within.l10 0 c _ (-1) _ _ (by omega) rfl o1 a1 h1
  | true =>
    refine cam_Within.l11 0 c _ (-1) _ _ (by omega) rfl o1 a1 h1 (by omega) ?_
    cases h2 : allC c (byW limit) 1 (deriveW c.lift) with
    | false => exact cam_Within.l10 1 c _ 1 _ _ (by omega) rfl o2 a2 h2
    | true => exact cam_Within.l11 1 c _ 1 _ _ (by omega) rfl o2 a2 h2 (by omega) (cam_Within.l13 2 c _ _ none (by omega) (Positive g))
theorem Convex {c : ACam} (g : GCam c) : Contract prg 56 [c.pv] (.tup [vB (convC c), .nilI]) := by
  have s1 : ht (sqP piHi) ≤ 1 := by decide +kernel
  have s2 : ht (sqP piLo) ≤ 1 := by decide +kernel
  have a1 := all22 (byV := ((1 : Int) : Rat)) (f := sqP piLo) g (by decide) (by omega)
  have a2 := all22 (byV := ((1 : Int) : Rat)) (f := sqP piHi) g (by decide) (by omega)
  have o2 := CFr.Of 1 (by unfold InI64; omega)
  have q1 := square piLo (by decide) (by decide)
  have q2 := square piHi (by decide) (by decide)
  refine cam_Convex.e0 c _ _ (check g) low high ?_
  unfold convC
  cases h1 : allC c 1 (sqP piLo) (deriveW (deriveW c.lift)) with
  | false => exact cam_Convex.l10 0 c _ _ _ _ _ _ (by omega) rfl o2 q1 a1 h1
  | true =>
    refine cam_Convex.l11 0 c _ _ _ _ _ _ (by omega) rfl o2 q1 a1 h1 (by omega) ?_
    cases h2 : allC c 1 (sqP piHi) (deriveW (deriveW c.lift)) with
    | false => exact cam_Convex.l10 1 c _ _ _ _ _ _ (by omega) rfl o2 q2 a2 h2
    | true => exact cam_Convex.l11 1 c _ _ _ _ _ _ (by omega) rfl o2 q2 a2 h2 (by omega) (cam_Convex.l13 2 c _ _ (by omega))
end CCa
end Go.Proofs.YtbgkjomonebfcaaGreat.Sym
namespace Go.Proofs.YtbgkjomonebfcaaGreat.Sym
open Go Path CInt
set_option linter.unusedVariables false
namespace CCr
theorem Check (c : ACam) (hf : FitW 1073741824 c.lift) (hb : c.base.num.length ≤ 68719476736 ∧ c.base.den.length ≤ 68719476736) : Contract prg 46 [c.pv] (vI (chkCam c)) := by
  have hk := CRl.Check c.lift hf
  unfold chkCam
  by_cases h : chkLaw c.lift = 0
  · rw [if_pos h]
    have hv := CRb.Valid c.base ⟨by omega, by omega⟩
    have hs := CRb.Sign c.base ⟨by omega, by omega⟩
    cases hvb : c.base.valid with
    | false =>
      rw [if_neg (by intro e; cases e.1)]
      exact linkworkref53_Check.e1 c _ _ hk h hv hvb
    | true =>
      by_cases h0 : 0 < c.base.val
      · rw [if_pos ⟨rfl, h0⟩]
        exact linkworkref53_Check.e3 c _ _ _ hk h hv hvb hs (cmpR_gt.2 h0)
      · rw [if_neg (by intro e; exact h0 e.2)]
        exact linkworkref53_Check.e2 c _ _ _ hk h hv hvb hs (cmpR_le.2 (by grind))
  · rw [if_neg h]
    exact linkworkref53_Check.e0 c _ hk h
theorem over (a b : Rat) (ha : ht a ≤ 68719476736) (hb : ht b ≤ 68719476736) (h0 : b ≠ 0) : Contract prg 131 [(mkR a).pv, (mkR b).pv] (mkR (a / b)).pv := linkworkref53_over.e0 _ _ _ _ (QR.Div a b ha hb h0)
theorem lo : Contract prg 123 [] (mkR piLo).pv := by
  have h := over ((333 : Int) : Rat) ((106 : Int) : Rat) (by decide) (by decide) (by decide)
  rw [show ((333 : Int) : Rat) / ((106 : Int) : Rat) = piLo from by unfold piLo; rw [Rat.divInt_eq_div]] at h
  exact linkworkref53_PiLo.e0 _ _ _ (CRb.Of 333 (by unfold InI64; omega)) (CRb.Of 106 (by unfold InI64; omega)) h
theorem hi : Contract prg 122 [] (mkR piHi).pv := by
  have h := over ((355 : Int) : Rat) ((113 : Int) : Rat) (by decide) (by decide) (by decide)
  rw [show ((355 : Int) : Rat) / ((113 : Int) : Rat) = piHi from by unfold piHi; rw [Rat.divInt_eq_div]] at h
  exact linkworkref53_PiHi.e0 _ _ _ (CRb.Of 355 (by unfold InI64; omega)) (CRb.Of 113 (by unfold InI64; omega)) h
theorem square4 (pi : Rat) (hp : ht pi ≤ 4) : Contract prg 132 [(mkR pi).pv] (mkR (((4 : Int) : Rat) * (pi * pi))).pv := by
  have z4 : ht ((4 : Int) : Rat) ≤ 1 := by decide
  have m1 := ht_mul pi pi
  exact linkworkref53_square4.e0 _ _ _ _ (CRb.Of 4 (by unfold InI64; omega)) (QR.Mul pi pi (by omega) (by omega)) (QR.Mul _ _ (by omega) (by omega))
theorem sq_ne {pi : Rat} (h0 : pi ≠ 0) : ((4 : Int) : Rat) * (pi * pi) ≠ 0 := by
  intro e
  rcases Rat.mul_eq_zero.1 e with e | e
  · exact absurd e (by decide)
  · rcases Rat.mul_eq_zero.1 e with e | e <;> exact h0 e
def addK (p q : List Rat) (k : Rat) : List Rat := trimL (addL p (smulL k q))
theorem add {p q : List Rat} {k : Rat} {a b m : Nat} (zp : lastZ p = false) (zq : lastZ q = false) (lp : p.length ≤ 65) (lq : q.length ≤ 65) (hp : Fl a p) (hq : Fl b q) (hk : ht k ≤ m) (ha : 1 ≤ a) (hb : 1 ≤ b) (h : a + b + m + 4 ≤ 68719476736) : Contract prg 133 [pq p, pq q, (mkR k).pv] (pq (addK p q k)) := by
  have hck := CRe.Check (q.map mkR) (fitQ hq (by omega))
  rw [chk_map zq lq] at hck
  have s := linkworkref05_Scale.e1 _ _ _ _ hck rfl (CPr.plus (a := 1) (d := m) [] q k 0 (by simp) (by omega) (fun x hx => by cases hx) hq hk (by omega) hb (by omega))
  have e1 : trimL (addL [] (shiftL 0 (smulL k q))) = trimL (smulL k q) := rfl
  rw [e1] at s
  have h3 : Fl (m + b) (smulL k q) := fl_mono (fl_smulL hq) (by omega)
  have l3 := len_trimL (smulL k q)
  rw [len_smulL] at l3
  have hck2 := CPr.both (p.map mkR) ((trimL (smulL k q)).map mkR) (fitQ hp (by omega)) (fitQ (fl_trimL h3) (by omega))
  rw [chk2_zero (chk_map zp lp) (chk_map (lastZ_trimL _) (by omega))] at hck2
  have pl := CPr.plus (d := 1) p (trimL (smulL k q)) ((1 : Int) : Rat) 0 (by omega) (by omega) hp (fl_trimL h3) (by decide) ha (by omega) (by omega)
  have e2 : trimL (addL p (shiftL 0 (smulL ((1 : Int) : Rat) (trimL (smulL k q))))) = addK p q k := by
    unfold addK
    refine eval_ext (fun x => ?_)
    rw [evalL_addL, evalL_addL, evalL_shiftL, evalL_smulL, evalL_trimL, evalL_smulL, Rat.pow_zero, show ((1 : Int) : Rat) = 1 from rfl]; grind
  rw [e2] at pl
  exact linkworkref53_add.e0 _ _ _ _ _ _ _ s (linkworkref05_Add.e1 _ _ _ _ _ hck2 rfl (CRb.Of 1 (by unfold InI64; omega)) pl)
def radK (c : ACam) (t : Nat) : List Rat := trimL (addL [c.base.val] (pcW c.lift t))
theorem radK_len {c : ACam} (g : GCam c) (t : Nat) : (radK c t).length ≤ 6 := by
  have h := len_trimL (addL [c.base.val] (pcW c.lift t))
  rw [len_addL] at h
  have := pc_len6 g t
  simp only [List.length_cons, List.length_nil] at h
  unfold radK
  omega
theorem radK_fl {c : ACam} (g : GCam c) (t : Nat) : Fl 6 (radK c t) :=
  fl_trimL (fl_addL (k := 4) (m := 1) (fun x hx => by rw [List.mem_singleton.1 hx]; exact g.fb) (fl_pcW g.fl (by omega) t) (by omega) (by omega))
theorem radius {c : ACam} (g : GCam c) {t : Nat} (ht : t < c.lift.pieces.length) : Contract prg 128 [c.pv, vI (t : Int)] (pq (radK c t)) := by
  have gl := good_of g.law
  obtain ⟨b, p, hb, hp, eb, ep, hcp, h9⟩ := gl.at ht
  rw [ep] at hp
  have hb1 : Fl 4 [c.base.val] := fun x hx => by rw [List.mem_singleton.1 hx]; exact g.fb
  have t1 := CPr.Trim [c.base.val] (by simp) hb1 (by omega)
  have eb' : [c.base] = [c.base.val].map mkR := by rw [List.map_cons, List.map_nil, ← base_mk g]
  have l1 := len_trimL [c.base.val]
  simp only [List.length_cons, List.length_nil] at l1
  have l2 := pc_len6 g t
  have ha := add (p := trimL [c.base.val]) (q := pcW c.lift t) (k := ((1 : Int) : Rat)) (m := 1) (lastZ_trimL _) (pc_trim gl t) (by omega) (by omega) (fl_trimL hb1) (fl_pcW g.fl (by omega) t) (by decide) (by omega) (by omega) (by omega)
  have e : addK (trimL [c.base.val]) (pcW c.lift t) ((1 : Int) : Rat) = radK c t := by
    unfold addK radK
    refine eval_ext (fun x => ?_)
    rw [evalL_addL, evalL_addL, evalL_trimL, evalL_smulL, show ((1 : Int) : Rat) = 1 from rfl]; grind
  rw [e] at ha
  have t1' : Contract prg 200 [polyPV [c.base]] (pq (trimL [c.base.val])) := by rw [eb']; exact t1
  exact linkworkref53_radius.e0 c t _ t _ _ _ t1' rfl hp (CRb.Of 1 (by unfold InI64; omega)) ha
theorem length {c : ACam} (g : GCam c) {t : Nat} (ht : t < c.lift.pieces.length) : Contract prg 129 [c.lift.pv, vI (t : Int)] (mkR (lenW c.lift t)).pv := by
  have gl := good_of g.law
  have hlen := gl.len
  have hle := gl.le
  obtain ⟨b, p, hb, hp, eb, ep, hcp, h9⟩ := gl.at ht
  rw [eb] at hb
  have e1 := ht_endW g.fl (by omega) t
  have e2 := ht_brkW g.fl (by omega) t
  exact linkworkref53_length.e0 _ _ _ t _ _ (CRl.End c.lift t (by omega) (by omega) gl.valid) rfl hb (QR.Sub _ _ (by omega) (by omega))
theorem positive {p : List Rat} (hz : lastZ p = false) (hl : p.length ≤ 6) (hf : Fl 24 p) (len : Rat) (h0 : 0 ≤ len) (hh : ht len ≤ 100) : Contract prg 127 [pq p, (mkR len).pv] (vB (posB p len)) := by
  by_cases hne : p = []
  · subst hne
    rw [posB_nil]
    exact linkworkref53_positive.e0 _ _ rfl
  · have hpl := List.length_pos_iff.2 hne
    have hs := QR.Sign (coef p 0) (by have := fl_coef hf (by omega) 0; omega)
    by_cases h : 0 < coef p 0
    · have hc := CSr.Count (fine_of hz hne hl hf) 0 len h0 (by decide) (by omega)
      rw [posB_pos h]
      exact linkworkref53_positive.e2 _ _ _ _ _ _ (by rw [lenM]; omega) (getM (coef_get (by omega))) hs (cmpR_gt.2 h) hc
    · rw [posB_neg h]
      exact linkworkref53_positive.e1 _ _ _ _ (by rw [lenM]; omega) (getM (coef_get (by omega))) hs (cmpR_le.2 (by grind))
def all2F (c : ACam) (P Q : Nat → List Rat) : Nat → Nat → Bool
  | 0, _ => true
  | j + 1, t => bif posB (P t) (lenW c.lift t) then (bif posB (Q t) (lenW c.lift t) then all2F c P Q j (t + 1) else false) else false
theorem all2F_eq (c : ACam) (P Q : Nat → List Rat) (byV f1 f2 : Rat) (d : ALaw) (hP : ∀ t, P t = combL c.base.val byV (pcW c.lift t) f1 (pcW d t)) (hQ : ∀ t, Q t = combL c.base.val byV (pcW c.lift t) f2 (pcW d t)) : ∀ j t, all2F c P Q j t = (allF c byV f1 d j t && allF c byV f2 d j t)
  | 0, _ => rfl
  | j + 1, t => by
    rw [all2F, allF, allF, all2F_eq c P Q byV f1 f2 d hP hQ j (t + 1), hP, hQ]
    cases posB (combL c.base.val byV (pcW c.lift t) f1 (pcW d t)) (lenW c.lift t) <;> cases posB (combL c.base.val byV (pcW c.lift t) f2 (pcW d t)) (lenW c.lift t) <;> cases allF c byV f1 d j (t + 1) <;> cases allF c byV f2 d j (t + 1) <;> rfl
theorem rad_comb (c : ACam) (t : Nat) : radK c t = combL c.base.val 1 (pcW c.lift t) 0 (pcW c.lift t) := by
  unfold radK
  rw [show combL c.base.val 1 (pcW c.lift t) 0 (pcW c.lift t) = trimL (addL (smulL 1 (addL [c.base.val] (pcW c.lift t))) (smulL 0 (pcW c.lift t))) from rfl]
  refine eval_ext (fun x => ?_)
  rw [evalL_addL, evalL_addL, evalL_smulL, evalL_smulL, evalL_addL]; grind
theorem Positive {c : ACam} (g : GCam c) : Contract prg 57 [c.pv] (vB (posC c)) := by
  have gl := good_of g.law
  have hlen := gl.len
  have hle := gl.le
  have loop : ∀ (j t : Nat), c.lift.pieces.length - t = j → linkworkref53_Positive.Loop1 t c (vB (allF c 1 0 c.lift j t)) := by
    intro j
    induction j with
    | zero => intro t hj; exact linkworkref53_Positive.l12 t c (by omega)
    | succ j ih =>
      intro t hj
      have ht : t < c.lift.pieces.length := by omega
      have hlp := lenW_pos gl (t := t) (by omega)
      have hlh := ht_lenW g.fl (by omega) t
      have hpo := positive (p := radK c t) (lastZ_trimL _) (radK_len g t) (fl_mono (radK_fl g t) (by omega)) (lenW c.lift t) (Rat.le_of_lt hlp) (by omega)
      rw [allF, ← rad_comb]
      cases hb : posB (radK c t) (lenW c.lift t) with
      | false => exact linkworkref53_Positive.l10 t c _ _ _ ht (radius g ht) (length g ht) hpo hb
      | true => exact linkworkref53_Positive.l11 t c _ _ _ ht (radius g ht) (length g ht) hpo hb (by omega) (ih (t + 1) (by omega))
  exact linkworkref53_Positive.e0 c (loop _ 0 rfl)
theorem Within {c : ACam} (g : GCam c) {limit : Rat} (hl : ht limit ≤ 4) : Contract prg 61 [c.pv, (mkR limit).pv] (vB (withC c limit)) := by
  have gl := good_of g.law
  have hlen := gl.len
  have hle := gl.le
  have hp := Positive g
  unfold withC
  cases hpc : posC c with
  | false =>
    rw [Bool.and_false, Bool.and_false]
    exact linkworkref53_Within.e0 c _ _ hp hpc
  | true =>
    rw [Bool.and_true]
    have p2 : ht piLo ≤ 1 := by decide
    have z2 : ht ((2 : Int) : Rat) ≤ 1 := by decide
    have m1 := ht_mul ((2 : Int) : Rat) piLo
    have hb := CCa.ht_byW hl
    have h1 := gder1 g
    have gd := good_of h1.good
    have hdp := h1.pcs
    have hd := CRl.Derive c.lift gl (fitW_up g.fl (by omega))
    have hmul := QR.Mul (((2 : Int) : Rat) * piLo) limit (by omega) (by omega)
    rw [show ((2 : Int) : Rat) * piLo * limit = byW limit from by unfold byW; show (2 : Rat) * piLo * limit = _; grind] at hmul
    have eP : ∀ t, addK (addK [] (radK c t) (byW limit)) (pcW (deriveW c.lift) t) ((1 : Int) : Rat) = combL c.base.val (byW limit) (pcW c.lift t) 1 (pcW (deriveW c.lift) t) := fun t => by
      refine eval_ext (fun x => ?_)
      rw [evalL_addL, evalL_addL, evalL_smulL, evalL_smulL, evalL_smulL, evalL_addL]
      unfold addK radK
      rw [evalL_trimL, evalL_addL, evalL_smulL, evalL_trimL, evalL_addL, show ((1 : Int) : Rat) = 1 from rfl]
      show 0 + _ + _ = _
      grind
    have eQ : ∀ t, addK (addK [] (radK c t) (byW limit)) (pcW (deriveW c.lift) t) ((-1 : Int) : Rat) = combL c.base.val (byW limit) (pcW c.lift t) (-1) (pcW (deriveW c.lift) t) := fun t => by
      refine eval_ext (fun x => ?_)
      rw [evalL_addL, evalL_addL, evalL_smulL, evalL_smulL, evalL_smulL, evalL_addL]
      unfold addK radK
      rw [evalL_trimL, evalL_addL, evalL_smulL, evalL_trimL, evalL_addL, show ((-1 : Int) : Rat) = -1 from rfl]
      show 0 + _ + _ = _
      grind
    have loop : ∀ (j t : Nat), c.lift.pieces.length - t = j → linkworkref53_Within.Loop1 t c (mkR (byW limit)) (deriveW c.lift) (vB (all2F c (fun t => addK (addK [] (radK c t) (byW limit)) (pcW (deriveW c.lift) t) ((1 : Int) : Rat)) (fun t => addK (addK [] (radK c t) (byW limit)) (pcW (deriveW c.lift) t) ((-1 : Int) : Rat)) j t)) := by
      intro j
      induction j with
      | zero => intro t hj; exact linkworkref53_Within.l13 t c _ _ (by omega)
      | succ j ih =>
        intro t hj
        have ht : t < c.lift.pieces.length := by omega
        obtain ⟨b', p', hb', hp', eb', ep', hcp', h9'⟩ := gd.at (t := t) (by omega)
        rw [ep'] at hp'
        have hlp := lenW_pos gl (t := t) (by omega)
        have hlh := ht_lenW g.fl (by omega) t
        have l2 := h1.len t
        have f2 := fl_pcW h1.fit (by omega) t
        have rl := radK_len g t
        have rf := radK_fl g t
        have ak := add (p := []) (q := radK c t) (k := byW limit) (a := 1) (b := 6) (m := 7) rfl (lastZ_trimL _) (by simp) (by omega) (fun x hx => by cases hx) rf (by omega) (by omega) (by omega) (by omega)
        have af : Fl 13 (addK [] (radK c t) (byW limit)) := fl_trimL (fl_mono (fl_smulL (c := byW limit) rf) (by omega))
        have al : (addK [] (radK c t) (byW limit)).length ≤ 6 := by
          have h := len_trimL (addL [] (smulL (byW limit) (radK c t)))
          rw [len_addL, len_smulL] at h
          have h : (addK [] (radK c t) (byW limit)).length ≤ max 0 (radK c t).length := h
          omega
        have one : ∀ k : Int, Sym.ht ((k : Int) : Rat) ≤ 1 → Contract prg 133 [pq (addK [] (radK c t) (byW limit)), pq (pcW (deriveW c.lift) t), (mkR ((k : Int) : Rat)).pv] (pq (addK (addK [] (radK c t) (byW limit)) (pcW (deriveW c.lift) t) ((k : Int) : Rat))) ∧ Contract prg 127 [pq (addK (addK [] (radK c t) (byW limit)) (pcW (deriveW c.lift) t) ((k : Int) : Rat)), (mkR (lenW c.lift t)).pv] (vB (posB (addK (addK [] (radK c t) (byW limit)) (pcW (deriveW c.lift) t) ((k : Int) : Rat)) (lenW c.lift t))) := by
          intro k hk
          have a2 := add (p := addK [] (radK c t) (byW limit)) (q := pcW (deriveW c.lift) t) (k := ((k : Int) : Rat)) (a := 13) (b := 5) (m := 1) (lastZ_trimL _) (pc_trim gd t) (by omega) (by omega) af f2 hk (by omega) (by omega) (by omega)
          have f3 : Fl 24 (addK (addK [] (radK c t) (byW limit)) (pcW (deriveW c.lift) t) ((k : Int) : Rat)) := fl_trimL (fl_mono (fl_addL (m := 6) af (fl_mono (fl_smulL f2) (by omega)) (by omega) (by omega)) (by omega))
          have l3 : (addK (addK [] (radK c t) (byW limit)) (pcW (deriveW c.lift) t) ((k : Int) : Rat)).length ≤ 6 := by
            have h := len_trimL (addL (addK [] (radK c t) (byW limit)) (smulL ((k : Int) : Rat) (pcW (deriveW c.lift) t)))
            rw [len_addL, len_smulL] at h
            have h : (addK (addK [] (radK c t) (byW limit)) (pcW (deriveW c.lift) t) ((k : Int) : Rat)).length ≤ max (addK [] (radK c t) (byW limit)).length (pcW (deriveW c.lift) t).length := h
            omega
          exact ⟨a2, positive (lastZ_trimL _) l3 f3 (lenW c.lift t) (Rat.le_of_lt hlp) (by omega)⟩
        obtain ⟨a1, b1⟩ := one 1 (by decide)
        obtain ⟨a2, b2⟩ := one (-1) (by decide)
        have o1 := CRb.Of 1 (by unfold InI64; omega)
        have o2 := CRb.Of (-1) (by unfold InI64; omega)
        rw [all2F]
        cases c1 : posB (addK (addK [] (radK c t) (byW limit)) (pcW (deriveW c.lift) t) ((1 : Int) : Rat)) (lenW c.lift t) with
        | false => exact linkworkref53_Within.l10 t c _ _ _ _ _ _ _ _ _ ht (radius g ht) ak hp' o1 a1 (length g ht) b1 c1
        | true =>
          cases c2 : posB (addK (addK [] (radK c t) (byW limit)) (pcW (deriveW c.lift) t) ((-1 : Int) : Rat)) (lenW c.lift t) with
          | false => exact linkworkref53_Within.l11 t c _ _ _ _ _ _ _ _ _ _ _ _ _ ht (radius g ht) ak hp' o1 a1 (length g ht) b1 c1 o2 a2 (length g ht) b2 c2
          | true => exact linkworkref53_Within.l12 t c _ _ _ _ _ _ _ _ _ _ _ _ _ ht (radius g ht) ak hp' o1 a1 (length g ht) b1 c1 o2 a2 (length g ht) b2 c2 (by omega) (ih (t + 1) (by omega))
    have := loop _ 0 rfl
    rw [all2F_eq c _ _ (byW limit) 1 (-1) (deriveW c.lift) eP eQ, Bool.and_comm] at this
    exact linkworkref53_Within.e1 c _ _ _ _ _ _ _ hp hpc (CRb.Of 2 (by unfold InI64; omega)) lo (QR.Mul _ _ (by omega) (by omega)) hmul hd this
theorem Convex {c : ACam} (g : GCam c) : Contract prg 58 [c.pv] (vB (convC c)) := by
  have gl := good_of g.law
  have hlen := gl.len
  have hle := gl.le
  have h1 := gder1 g
  have h2 := gder2 g
  have gd := good_of h2.good
  have hdp := h2.pcs
  have s1 : ht (sqP piHi) ≤ 1 := by decide +kernel
  have s2 : ht (sqP piLo) ≤ 1 := by decide +kernel
  have hd := CRl.Derive c.lift gl (fitW_up g.fl (by omega))
  have hd2 := CRl.Derive (deriveW c.lift) (good_of h1.good) (fitW_up h1.fit (by omega))
  have q1 := square4 piLo (by decide)
  have q2 := square4 piHi (by decide)
  have v1 := over ((1 : Int) : Rat) (((4 : Int) : Rat) * (piLo * piLo)) (by decide) (by decide +kernel) (sq_ne (by decide))
  have v2 := over ((1 : Int) : Rat) (((4 : Int) : Rat) * (piHi * piHi)) (by decide) (by decide +kernel) (sq_ne (by decide))
  have eP : ∀ (pi : Rat) t, addK (radK c t) (pcW (deriveW (deriveW c.lift)) t) (sqP pi) = combL c.base.val 1 (pcW c.lift t) (sqP pi) (pcW (deriveW (deriveW c.lift)) t) := fun pi t => by
    refine eval_ext (fun x => ?_)
    rw [evalL_addL, evalL_addL, evalL_smulL, evalL_smulL, evalL_addL]
    unfold radK
    rw [evalL_trimL, evalL_addL]; grind
  have loop : ∀ (j t : Nat), c.lift.pieces.length - t = j → linkworkref53_Convex.Loop1 t c (deriveW (deriveW c.lift)) (mkR ((1 : Int) : Rat)) (vB (all2F c (fun t => addK (radK c t) (pcW (deriveW (deriveW c.lift)) t) (sqP piLo)) (fun t => addK (radK c t) (pcW (deriveW (deriveW c.lift)) t) (sqP piHi)) j t)) := by
    intro j
    induction j with
    | zero => intro t hj; exact linkworkref53_Convex.l13 t c _ _ (by omega)
    | succ j ih =>
      intro t hj
      have ht : t < c.lift.pieces.length := by omega
      obtain ⟨b', p', hb', hp', eb', ep', hcp', h9'⟩ := gd.at (t := t) (by omega)
      rw [ep'] at hp'
      have hlp := lenW_pos gl (t := t) (by omega)
      have hlh := ht_lenW g.fl (by omega) t
      have l2 := h2.len t
      have f2 := fl_pcW h2.fit (by omega) t
      have rl := radK_len g t
      have rf := radK_fl g t
      have one : ∀ k : Rat, Sym.ht k ≤ 1 → Contract prg 133 [pq (radK c t), pq (pcW (deriveW (deriveW c.lift)) t), (mkR k).pv] (pq (addK (radK c t) (pcW (deriveW (deriveW c.lift)) t) k)) ∧ Contract prg 127 [pq (addK (radK c t) (pcW (deriveW (deriveW c.lift)) t) k), (mkR (lenW c.lift t)).pv] (vB (posB (addK (radK c t) (pcW (deriveW (deriveW c.lift)) t) k) (lenW c.lift t))) := by
        intro k hk
        have a2 := add (p := radK c t) (q := pcW (deriveW (deriveW c.lift)) t) (k := k) (a := 6) (b := 5) (m := 1) (lastZ_trimL _) (pc_trim gd t) (by omega) (by omega) rf f2 hk (by omega) (by omega) (by omega)
        have f3 : Fl 24 (addK (radK c t) (pcW (deriveW (deriveW c.lift)) t) k) := fl_trimL (fl_mono (fl_addL (m := 6) rf (fl_mono (fl_smulL f2) (by omega)) (by omega) (by omega)) (by omega))
        have l3 : (addK (radK c t) (pcW (deriveW (deriveW c.lift)) t) k).length ≤ 6 := by
          have h := len_trimL (addL (radK c t) (smulL k (pcW (deriveW (deriveW c.lift)) t)))
          rw [len_addL, len_smulL] at h
          have h : (addK (radK c t) (pcW (deriveW (deriveW c.lift)) t) k).length ≤ max (radK c t).length (pcW (deriveW (deriveW c.lift)) t).length := h
          omega
        exact ⟨a2, positive (lastZ_trimL _) l3 f3 (lenW c.lift t) (Rat.le_of_lt hlp) (by omega)⟩
      obtain ⟨a1, b1⟩ := one (sqP piLo) s2
      obtain ⟨a2, b2⟩ := one (sqP piHi) s1
      rw [all2F]
      cases c1 : posB (addK (radK c t) (pcW (deriveW (deriveW c.lift)) t) (sqP piLo)) (lenW c.lift t) with
      | false => exact linkworkref53_Convex.l10 t c _ _ _ _ _ _ _ _ _ _ _ _ _ ht lo q1 v1 hi q2 v2 (radius g ht) hp' a1 (length g ht) b1 c1
      | true =>
        cases c2 : posB (addK (radK c t) (pcW (deriveW (deriveW c.lift)) t) (sqP piHi)) (lenW c.lift t) with
        | false => exact linkworkref53_Convex.l11 t c _ _ _ _ _ _ _ _ _ _ _ _ _ _ _ _ _ ht lo q1 v1 hi q2 v2 (radius g ht) hp' a1 (length g ht) b1 c1 (radius g ht) a2 (length g ht) b2 c2
        | true => exact linkworkref53_Convex.l12 t c _ _ _ _ _ _ _ _ _ _ _ _ _ _ _ _ _ ht lo q1 v1 hi q2 v2 (radius g ht) hp' a1 (length g ht) b1 c1 (radius g ht) a2 (length g ht) b2 c2 (by omega) (ih (t + 1) (by omega))
  have := loop _ 0 rfl
  rw [all2F_eq c _ _ 1 (sqP piLo) (sqP piHi) (deriveW (deriveW c.lift)) (eP piLo) (eP piHi)] at this
  exact linkworkref53_Convex.e0 c _ _ _ hd hd2 (CRb.Of 1 (by unfold InI64; omega)) this
end CCr
end Go.Proofs.YtbgkjomonebfcaaGreat.Sym
