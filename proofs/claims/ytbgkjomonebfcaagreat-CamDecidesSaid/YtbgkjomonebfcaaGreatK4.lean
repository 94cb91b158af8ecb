/- The statement CamDecides is proved: Positive, Within and Convex of layer 53 return what is specified; no condition. -/
import Derived.Test.YtbgkjomonebfcaaGreatK0
import Derived.Test.YtbgkjomonebfcaaGreatK3
import Derived.Test.YtbgkjomonebfcaaGreatRows
import Derived.JoinedCond
namespace Go.Proofs.YtbgkjomonebfcaaGreat.Sym.Path
open Go
set_option maxRecDepth 20000
set_option linter.unusedVariables false
namespace linkworklaw53_CamDecides
theorem e1 (c : ACam) (limit : ARat) (awa lar awa1 : Bool) (h1 : Contract prg 40 [] (vB awa)) (h2 : awa = true) (h3 : Contract prg 41 [c.pv] (vB lar)) (h4 : lar = true) (h5 : Contract prg 40 [] (vB awa1)) : Contract prg 10 [c.pv, limit.pv] (vB awa1) :=
  Contract.ofL Tryz.func10 (by kernel_rfl) (L.done mixed tabOk (n := 84) (ns := [1, 1, 1, 1, 1, 1, 1, 1, 1]) (tr := [.reg [], .reg [(.pv (vB awa)), .none, .none, .none, (.pv (vB lar)), (.dec false), .none, .skip, .skip, (.dec true)], .auto, .reg [(.pv (vB awa1))]]) (cj h1 (cj (bnot_f h2) (cj (bnot_f h2) (cj h3 (cj (bnot_f h2) (cj h4 (cj h4 (cj h4 (cj h5 True.intro))))))))) (by kernel_rfl))
theorem e2 (c : ACam) (limit : ARat) (awa lar lon awa1 : Bool) (h1 : Contract prg 40 [] (vB awa)) (h2 : awa = true) (h3 : Contract prg 41 [c.pv] (vB lar)) (h4 : lar = false) (h5 : Contract prg 42 [limit.pv] (vB lon)) (h6 : lon = true) (h7 : Contract prg 40 [] (vB awa1)) : Contract prg 10 [c.pv, limit.pv] (vB awa1) :=
  Contract.ofL Tryz.func10 (by kernel_rfl) (L.done mixed tabOk (n := 84) (ns := [1, 1, 1, 1, 1, 1, 1, 1, 1, 1, 1]) (tr := [.reg [], .reg [(.pv (vB awa)), .none, .none, .none, (.pv (vB lar)), (.dec false), .none, .none, (.pv (vB lon)), (.dec false)], .dec true, .reg [(.pv (vB awa1))]]) (cj h1 (cj (bnot_f h2) (cj (bnot_f h2) (cj h3 (cj (bnot_f h2) (cj h4 (cj h4 (cj h5 (cj h4 (cj h6 (cj h7 True.intro))))))))))) (by kernel_rfl))
theorem e3 (c : ACam) (limit : ARat) (awa lar lon pos : Bool) (pos1 : Option Int) (wit : Bool) (wit1 : Option Int) (con : Bool) (con1 : Option Int) (che num num1 num2 : Int) (h1 : Contract prg 40 [] (vB awa)) (h2 : awa = true) (h3 : Contract prg 41 [c.pv] (vB lar)) (h4 : lar = false) (h5 : Contract prg 42 [limit.pv] (vB lon)) (h6 : lon = false) (h7 : Contract prg 54 [c.pv] (.tup [(vB pos), (errPV pos1)])) (h8 : Contract prg 55 [c.pv, limit.pv] (.tup [(vB wit), (errPV wit1)])) (h9 : Contract prg 56 [c.pv] (.tup [(vB con), (errPV con1)])) (h10 : Contract prg 46 [c.pv] (vI che)) (h11 : che ≠ 0) (h12 : pos = false) (h13 : wit = false) (h14 : con = false) (h15 : Contract prg 24 [(errPV pos1)] (vI num)) (h16 : num = che) (h17 : Contract prg 24 [(errPV wit1)] (vI num1)) (h18 : num1 = che) (h19 : Contract prg 24 [(errPV con1)] (vI num2)) : Contract prg 10 [c.pv, limit.pv] (vB (num2 == che)) :=
  Contract.ofL Tryz.func10 (by kernel_rfl) (L.done mixed tabOk (n := 123) (ns := [1, 1, 1, 1, 1, 1, 1, 1, 1, 1, 1, 1, 1, 1, 1, 1, 1, 1, 1, 1, 1, 1, 1, 1, 1, 1, 1, 1, 1, 1, 1, 1, 1, 1, 1, 1, 1, 1, 1]) (tr := [.reg [], .reg [(.pv (vB awa)), .none, .none, .none, (.pv (vB lar)), (.dec false), .none, .none, (.pv (vB lon)), (.dec false)], .dec false, .reg [.none, (.pv (.tup [(vB pos), (errPV pos1)]))], .reg [.none, .none, (.pv (.tup [(vB wit), (errPV wit1)]))], .reg [.none, (.pv (.tup [(vB con), (errPV con1)]))], .reg [.none, (.pv (vI che))], .reg [], .dec true, .reg [.none, .none, .none, .none, .none, (.dec true), .none, .none, .none, (.dec true), .none, .none, (.pv (vI num)), .none, .none, (.dec true), .none, .none, (.pv (vI num1)), .none, .none, (.dec true), .none, .none, (.pv (vI num2)), .none, .none, (.dec true)]]) (cj h1 (cj (bnot_f h2) (cj (bnot_f h2) (cj h3 (cj (bnot_f h2) (cj h4 (cj h4 (cj h5 (cj h4 (cj h6 (cj h7 (cj h8 (cj h9 (cj h10 (cj (dne_t h11) (cj (bnot_t h12) (cj (bnot_t h12) (cj (bnot_t h12) (cj (bnot_t h13) (cj (bnot_t h13) (cj (bnot_t h13) (cj (bnot_t h14) (cj (bnot_t h14) (cj h15 (cj (bnot_t h14) (cj (bnot_t h14) (cj (bnot_t h14) (cj (deq_t h16) (cj (deq_t h16) (cj h17 (cj (deq_t h16) (cj (deq_t h16) (cj (deq_t h16) (cj (deq_t h18) (cj (deq_t h18) (cj h19 (cj (deq_t h18) (cj (deq_t h18) (cj (deq_t h18) True.intro))))))))))))))))))))))))))))))))))))))) (by kernel_rfl))
theorem e4 (c : ACam) (limit : ARat) (awa lar lon pos wit : Bool) (wit1 : Option Int) (con : Bool) (che : Int) (pos2 con2 val isV : Bool) (h1 : Contract prg 40 [] (vB awa)) (h2 : awa = true) (h3 : Contract prg 41 [c.pv] (vB lar)) (h4 : lar = false) (h5 : Contract prg 42 [limit.pv] (vB lon)) (h6 : lon = false) (h7 : Contract prg 54 [c.pv] (.tup [(vB pos), .nilI])) (h8 : Contract prg 55 [c.pv, limit.pv] (.tup [(vB wit), (errPV wit1)])) (h9 : Contract prg 56 [c.pv] (.tup [(vB con), .nilI])) (h10 : Contract prg 46 [c.pv] (vI che)) (h11 : che = 0) (h12 : Contract prg 57 [c.pv] (vB pos2)) (h13 : pos = pos2) (h14 : Contract prg 58 [c.pv] (vB con2)) (h15 : con = con2) (h16 : Contract prg 48 [limit.pv] (vB val)) (h17 : val = false) (h18 : wit = false) (h19 : Contract prg 60 [(errPV wit1), (vI 3)] (vB isV)) : Contract prg 10 [c.pv, limit.pv] (vB isV) :=
  Contract.ofL Tryz.func10 (by kernel_rfl) (L.done mixed tabOk (n := 153) (ns := [1, 1, 1, 1, 1, 1, 1, 1, 1, 1, 1, 1, 1, 1, 1, 1, 1, 1, 1, 1, 1, 1, 1, 1, 1, 1, 1, 1, 1, 1, 1, 1, 1, 1, 1, 1, 1, 1]) (tr := [.reg [], .reg [(.pv (vB awa)), .none, .none, .none, (.pv (vB lar)), (.dec false), .none, .none, (.pv (vB lon)), (.dec false)], .dec false, .reg [.none, (.pv (.tup [(vB pos), .nilI]))], .reg [.none, .none, (.pv (.tup [(vB wit), (errPV wit1)]))], .reg [.none, (.pv (.tup [(vB con), .nilI]))], .reg [.none, (.pv (vI che))], .reg [], .dec false, .reg [.none, .none, .none, .none, .none, .none, .none, .none, .none, (.pv (vB pos2)), .none, .none, .none, .none, .none, (.pv (vB con2)), .none, (.dec false)], .dec false, .reg [.none, (.pv (vB val)), .none, .none, .skip, .skip, .skip, (.dec true)], .auto, .reg [.none, .none, .none, .none, (.pv (vB isV)), (.dec true)]]) (cj h1 (cj (bnot_f h2) (cj (bnot_f h2) (cj h3 (cj (bnot_f h2) (cj h4 (cj h4 (cj h5 (cj h4 (cj h6 (cj h7 (cj h8 (cj h9 (cj h10 (cj (dne_f h11) (cj (Eq.refl false) (cj (Eq.refl false) (cj (Eq.refl false) (cj (Eq.refl false) (cj (Eq.refl false) (cj h12 (cj (Eq.refl false) (cj (bnot_f (beq_t h13)) (cj (bnot_f (beq_t h13)) (cj (bnot_f (beq_t h13)) (cj h14 (cj (bnot_f (beq_t h13)) (cj (bnot_f (beq_t h13)) (cj (bnot_f (beq_t h15)) (cj h16 (cj (bnot_t h17) (cj (bnot_t h17) (cj (bnot_t h17) (cj (bnot_t h17) (cj (bnot_t h18) (cj (bnot_t h18) (cj h19 (cj (bnot_t h18) True.intro)))))))))))))))))))))))))))))))))))))) (by kernel_rfl))
theorem e5 (c : ACam) (limit : ARat) (awa lar lon pos wit : Bool) (wit1 : Option Int) (con : Bool) (che : Int) (pos2 con2 val : Bool) (sig : Int) (isV : Bool) (h1 : Contract prg 40 [] (vB awa)) (h2 : awa = true) (h3 : Contract prg 41 [c.pv] (vB lar)) (h4 : lar = false) (h5 : Contract prg 42 [limit.pv] (vB lon)) (h6 : lon = false) (h7 : Contract prg 54 [c.pv] (.tup [(vB pos), .nilI])) (h8 : Contract prg 55 [c.pv, limit.pv] (.tup [(vB wit), (errPV wit1)])) (h9 : Contract prg 56 [c.pv] (.tup [(vB con), .nilI])) (h10 : Contract prg 46 [c.pv] (vI che)) (h11 : che = 0) (h12 : Contract prg 57 [c.pv] (vB pos2)) (h13 : pos = pos2) (h14 : Contract prg 58 [c.pv] (vB con2)) (h15 : con = con2) (h16 : Contract prg 48 [limit.pv] (vB val)) (h17 : val = true) (h18 : Contract prg 59 [limit.pv] (vI sig)) (h19 : sig ≤ 0) (h20 : wit = false) (h21 : Contract prg 60 [(errPV wit1), (vI 3)] (vB isV)) : Contract prg 10 [c.pv, limit.pv] (vB isV) :=
  Contract.ofL Tryz.func10 (by kernel_rfl) (L.done mixed tabOk (n := 153) (ns := [1, 1, 1, 1, 1, 1, 1, 1, 1, 1, 1, 1, 1, 1, 1, 1, 1, 1, 1, 1, 1, 1, 1, 1, 1, 1, 1, 1, 1, 1, 1, 1, 1, 1, 1, 1, 1, 1, 1, 1]) (tr := [.reg [], .reg [(.pv (vB awa)), .none, .none, .none, (.pv (vB lar)), (.dec false), .none, .none, (.pv (vB lon)), (.dec false)], .dec false, .reg [.none, (.pv (.tup [(vB pos), .nilI]))], .reg [.none, .none, (.pv (.tup [(vB wit), (errPV wit1)]))], .reg [.none, (.pv (.tup [(vB con), .nilI]))], .reg [.none, (.pv (vI che))], .reg [], .dec false, .reg [.none, .none, .none, .none, .none, .none, .none, .none, .none, (.pv (vB pos2)), .none, .none, .none, .none, .none, (.pv (vB con2)), .none, (.dec false)], .dec false, .reg [.none, (.pv (vB val)), .none, .none, .none, (.pv (vI sig)), .none, (.dec false)], .dec true, .reg [.none, .none, .none, .none, (.pv (vB isV)), (.dec true)]]) (cj h1 (cj (bnot_f h2) (cj (bnot_f h2) (cj h3 (cj (bnot_f h2) (cj h4 (cj h4 (cj h5 (cj h4 (cj h6 (cj h7 (cj h8 (cj h9 (cj h10 (cj (dne_f h11) (cj (Eq.refl false) (cj (Eq.refl false) (cj (Eq.refl false) (cj (Eq.refl false) (cj (Eq.refl false) (cj h12 (cj (Eq.refl false) (cj (bnot_f (beq_t h13)) (cj (bnot_f (beq_t h13)) (cj (bnot_f (beq_t h13)) (cj h14 (cj (bnot_f (beq_t h13)) (cj (bnot_f (beq_t h13)) (cj (bnot_f (beq_t h15)) (cj h16 (cj (bnot_f h17) (cj (bnot_f h17) (cj h18 (cj (bnot_f h17) (cj (bnot_f h17) (cj (dle_t h19) (cj (bnot_t h20) (cj (bnot_t h20) (cj h21 (cj (bnot_t h20) True.intro)))))))))))))))))))))))))))))))))))))))) (by kernel_rfl))
theorem e6 (c : ACam) (limit : ARat) (awa lar lon pos wit con : Bool) (che : Int) (pos2 con2 val : Bool) (sig : Int) (wit2 : Bool) (h1 : Contract prg 40 [] (vB awa)) (h2 : awa = true) (h3 : Contract prg 41 [c.pv] (vB lar)) (h4 : lar = false) (h5 : Contract prg 42 [limit.pv] (vB lon)) (h6 : lon = false) (h7 : Contract prg 54 [c.pv] (.tup [(vB pos), .nilI])) (h8 : Contract prg 55 [c.pv, limit.pv] (.tup [(vB wit), .nilI])) (h9 : Contract prg 56 [c.pv] (.tup [(vB con), .nilI])) (h10 : Contract prg 46 [c.pv] (vI che)) (h11 : che = 0) (h12 : Contract prg 57 [c.pv] (vB pos2)) (h13 : pos = pos2) (h14 : Contract prg 58 [c.pv] (vB con2)) (h15 : con = con2) (h16 : Contract prg 48 [limit.pv] (vB val)) (h17 : val = true) (h18 : Contract prg 59 [limit.pv] (vI sig)) (h19 : 0 < sig) (h20 : Contract prg 61 [c.pv, limit.pv] (vB wit2)) : Contract prg 10 [c.pv, limit.pv] (vB (wit == wit2)) :=
  Contract.ofL Tryz.func10 (by kernel_rfl) (L.done mixed tabOk (n := 156) (ns := [1, 1, 1, 1, 1, 1, 1, 1, 1, 1, 1, 1, 1, 1, 1, 1, 1, 1, 1, 1, 1, 1, 1, 1, 1, 1, 1, 1, 1, 1, 1, 1, 1, 1, 1, 1, 1, 1, 1, 1, 1, 1]) (tr := [.reg [], .reg [(.pv (vB awa)), .none, .none, .none, (.pv (vB lar)), (.dec false), .none, .none, (.pv (vB lon)), (.dec false)], .dec false, .reg [.none, (.pv (.tup [(vB pos), .nilI]))], .reg [.none, .none, (.pv (.tup [(vB wit), .nilI]))], .reg [.none, (.pv (.tup [(vB con), .nilI]))], .reg [.none, (.pv (vI che))], .reg [], .dec false, .reg [.none, .none, .none, .none, .none, .none, .none, .none, .none, (.pv (vB pos2)), .none, .none, .none, .none, .none, (.pv (vB con2)), .none, (.dec false)], .dec false, .reg [.none, (.pv (vB val)), .none, .none, .none, (.pv (vI sig)), .none, (.dec false)], .dec false, .reg [.none, .none, .none, .none, .none, .none, (.pv (vB wit2))]]) (cj h1 (cj (bnot_f h2) (cj (bnot_f h2) (cj h3 (cj (bnot_f h2) (cj h4 (cj h4 (cj h5 (cj h4 (cj h6 (cj h7 (cj h8 (cj h9 (cj h10 (cj (dne_f h11) (cj (Eq.refl false) (cj (Eq.refl false) (cj (Eq.refl false) (cj (Eq.refl false) (cj (Eq.refl false) (cj h12 (cj (Eq.refl false) (cj (bnot_f (beq_t h13)) (cj (bnot_f (beq_t h13)) (cj (bnot_f (beq_t h13)) (cj h14 (cj (bnot_f (beq_t h13)) (cj (bnot_f (beq_t h13)) (cj (bnot_f (beq_t h15)) (cj h16 (cj (bnot_f h17) (cj (bnot_f h17) (cj h18 (cj (bnot_f h17) (cj (bnot_f h17) (cj (dle_f h19) (cj (Eq.refl true) (cj (Eq.refl true) (cj (Eq.refl true) (cj (Eq.refl true) (cj h20 (cj (Eq.refl true) True.intro)))))))))))))))))))))))))))))))))))))))))) (by kernel_rfl))
end linkworklaw53_CamDecides
namespace linkworklaw53_awake
theorem e0 (exa : ACam) (pre : ARange) (exa1 : ACam) (con : Bool) (par : ARat) (rat : Bool) (par1 : ARat) (rat1 : Bool) (h1 : Contract prg 104 [] exa.pv) (h2 : Contract prg 44 [exa.pv, (⟨false, [], []⟩ : ARat).pv] (.tup [pre.pv, .nilI])) (h3 : Contract prg 104 [] exa1.pv) (h4 : Contract prg 56 [exa1.pv] (.tup [(vB con), .nilI])) (h5 : con = true) (h6 : Contract prg 105 [(vI 113), (vI 710)] par.pv) (h7 : Contract prg 49 [pre.lo.pv, par.pv] (vB rat)) (h8 : rat = true) (h9 : Contract prg 105 [(vI 53), (vI 333)] par1.pv) (h10 : Contract prg 49 [pre.hi.pv, par1.pv] (vB rat1)) : Contract prg 40 [] (vB rat1) :=
  Contract.ofL Tryz.func40 (by kernel_rfl) (L.done mixed tabOk (n := 84) (ns := [1, 1, 1, 1, 1, 1, 1, 1, 1, 1, 1, 1, 1, 1, 1, 1, 1, 1, 1, 1, 1]) (tr := [.reg [], .reg [(.pv exa.pv), .none, (.pv (.tup [pre.pv, .nilI]))], .reg [(.pv exa1.pv), (.pv (.tup [(vB con), .nilI]))], dr 21 1 [.none, .none, .none, .none, .none, .none, .none, .none, .none, .none, .none, .none, (.pv par.pv), (.pv (vB rat)), (.dec true), .none, .none, .none, (.pv par1.pv), (.pv (vB rat1)), (.dec true)]]) (cj h1 (cj h2 (cj h3 (cj h4 (cj (Eq.refl true) (cj (Eq.refl true) (cj (Eq.refl true) (cj h5 (cj h5 (cj h5 (cj h6 (cj h5 (cj h7 (cj h5 (cj h8 (cj h8 (cj h8 (cj h9 (cj h8 (cj h10 (cj h8 True.intro))))))))))))))))))))) (by kernel_rfl))
end linkworklaw53_awake
namespace linkworklaw53_large
@[reducible] noncomputable def fn : Func := Tryz.f41
noncomputable def atK1 : List Itm := focus [0, 2, 0, 2, 0, 0, 2, 1, 2, 0, 0, 2, 0, 0] [.code (bodyOf fn)]
def inv1 (i_4 : Nat) (c : ACam) : St := ⟨[(3, (.ptr 3 0)), (4, (eI (i_4 : Int)))], [(3, (.lit [(.pv (polyPV c.lift.breaks)), (.pv (lpv (lcell ARat.cells) c.lift.pieces))]))]⟩
@[reducible] noncomputable def Loop1 (i_4 : Nat) (c : ACam) (r : PV) : Prop := L prg fn atK1 (inv1 i_4 c) r
noncomputable def atK2 : List Itm := focus [0, 2, 0, 2, 0, 0, 2, 1, 2, 0, 0, 2, 0, 0, 0, 0, 0, 2, 1, 2, 2, 2, 2, 0, 0, 2, 0, 0] [.code (bodyOf fn)]
def inv2 (i_5 : Nat) (c : ACam) : St := ⟨[(3, (.ptr 3 0)), (5, (eI (i_5 : Int)))], [(3, (.lit [(.pv (polyPV c.lift.breaks)), (.pv (lpv (lcell ARat.cells) c.lift.pieces))]))]⟩
@[reducible] noncomputable def Loop2 (i_5 : Nat) (c : ACam) (r : PV) : Prop := L prg fn atK2 (inv2 i_5 c) r
noncomputable def atK3 : List Itm := focus [0, 2, 0, 2, 0, 0, 2, 1, 2, 0, 0, 2, 0, 0, 0, 0, 0, 2, 1, 2, 2, 2, 2, 0, 0, 2, 0, 0, 0, 0, 0, 2, 0, 2, 0, 0, 0, 0, 2, 1, 2, 0, 2, 0, 0] [.code (bodyOf fn)]
def inv3 (i_5 k_6 : Nat) (c : ACam) : St := ⟨[(3, (.ptr 3 0)), (5, (eI (i_5 : Int))), (6, (eI (k_6 : Int)))], [(3, (.lit [(.pv (polyPV c.lift.breaks)), (.pv (lpv (lcell ARat.cells) c.lift.pieces))]))]⟩
@[reducible] noncomputable def Loop3 (i_5 k_6 : Nat) (c : ACam) (r : PV) : Prop := L prg fn atK3 (inv3 i_5 k_6 c) r
theorem e0 (c : ACam) (lon : Bool) (h1 : Contract prg 42 [c.base.pv] (vB lon)) (h2 : lon = true) : Contract prg 41 [c.pv] (vB true) :=
  Contract.ofL Tryz.func41 (by kernel_rfl) (L.done mixed tabOk (n := 90) (ns := [1, 1, 1, 1, 1, 1, 1, 1, 1, 1, 1, 1, 1, 1, 1, 1]) (tr := [.reg [], .reg [], .reg [.none, .none, (.pv (vB lon)), .none, .skip, .skip, .skip, .skip, (.dec true), .none, .skip, .skip, .skip, .skip, .none, .none, .skip, .skip, .skip, .skip, .skip, .skip, .skip, .skip, .skip, .skip], .auto, .reg []]) (cj h1 (cj h2 (cj h2 (cj h2 (cj h2 (cj h2 (cj (Eq.refl true) (cj (Eq.refl true) (cj (Eq.refl true) (cj (Eq.refl true) (cj (Eq.refl true) (cj (Eq.refl true) (cj (Eq.refl true) (cj (Eq.refl true) (cj (Eq.refl true) (cj (Eq.refl true) True.intro)))))))))))))))) (by kernel_rfl))
theorem e1 (c : ACam) (lon : Bool) (h1 : Contract prg 42 [c.base.pv] (vB lon)) (h2 : lon = false) (h3 : 40 < c.lift.breaks.length) : Contract prg 41 [c.pv] (vB true) :=
  Contract.ofL Tryz.func41 (by kernel_rfl) (L.done mixed tabOk (n := 90) (ns := [1, 1, 1, 1, 1, 1, 1, 1, 1, 1, 1, 1, 1, 1, 1, 1, 1, 1]) (tr := [.reg [], .reg [], .reg [.none, .none, (.pv (vB lon)), .none, .none, .none, (iI (c.lift.breaks.length : Int)), .none, (.dec false), .none, .skip, .skip, .skip, .skip, (.dec true), .none, .skip, .skip, .skip, .skip, .skip, .skip, .skip, .skip, .skip, .skip], .auto, .reg []]) (cj h1 (cj h2 (cj h2 (cj h2 (cj (o_len ARat.cells c.lift.breaks) (cj h2 (cj h2 (cj (dltN_t h3) (cj (dltN_t h3) (cj (dltN_t h3) (cj (dltN_t h3) (cj (dltN_t h3) (cj (Eq.refl true) (cj (Eq.refl true) (cj (Eq.refl true) (cj (Eq.refl true) (cj (Eq.refl true) (cj (Eq.refl true) True.intro)))))))))))))))))) (by kernel_rfl))
theorem e2 (c : ACam) (lon : Bool) (h1 : Contract prg 42 [c.base.pv] (vB lon)) (h2 : lon = false) (h3 : c.lift.breaks.length ≤ 40) (h4 : 40 < c.lift.pieces.length) : Contract prg 41 [c.pv] (vB true) :=
  Contract.ofL Tryz.func41 (by kernel_rfl) (L.done mixed tabOk (n := 90) (ns := [1, 1, 1, 1, 1, 1, 1, 1, 1, 1, 1, 1, 1, 1, 1, 1, 1, 1, 1, 1]) (tr := [.reg [], .reg [], .reg [.none, .none, (.pv (vB lon)), .none, .none, .none, (iI (c.lift.breaks.length : Int)), .none, (.dec false), .none, .none, .none, (iI (c.lift.pieces.length : Int)), .none, (.dec false), .none, .skip, .skip, .skip, .skip, .skip, .skip, .skip, .skip, .skip, .skip, (.dec true)], .auto, .reg []]) (cj h1 (cj h2 (cj h2 (cj h2 (cj (o_len ARat.cells c.lift.breaks) (cj h2 (cj h2 (cj (dltN_f h3) (cj (dltN_f h3) (cj (dltN_f h3) (cj (o_len (lcell ARat.cells) c.lift.pieces) (cj (dltN_f h3) (cj (dltN_f h3) (cj (dltN_t h4) (cj (dltN_t h4) (cj (dltN_t h4) (cj (dltN_t h4) (cj (dltN_t h4) (cj (dltN_t h4) (cj (dltN_t h4) True.intro)))))))))))))))))))) (by kernel_rfl))
theorem e3 (c : ACam) (lon : Bool) (h1 : Contract prg 42 [c.base.pv] (vB lon)) (h2 : lon = false) (h3 : c.lift.breaks.length ≤ 40) (h4 : c.lift.pieces.length ≤ 40) (h5 : 5 < c.lift.pieces.length) (h6 : c.lift.pieces.length ≤ 16) : Contract prg 41 [c.pv] (vB true) :=
  Contract.ofL Tryz.func41 (by kernel_rfl) (L.done mixed tabOk (n := 90) (ns := [1, 1, 1, 1, 1, 1, 1, 1, 1, 1, 1, 1, 1, 1, 1, 1, 1, 1, 1, 1, 1, 1, 1, 1, 1, 1, 1, 1]) (tr := [.reg [], .reg [], .reg [.none, .none, (.pv (vB lon)), .none, .none, .none, (iI (c.lift.breaks.length : Int)), .none, (.dec false), .none, .none, .none, (iI (c.lift.pieces.length : Int)), .none, (.dec false), .none, .none, .none, (iI (c.lift.pieces.length : Int)), .none, .none, .none, .none, (iI (c.lift.pieces.length : Int)), .none, (.dec true), (.dec false)], .dec true, .reg []]) (cj h1 (cj h2 (cj h2 (cj h2 (cj (o_len ARat.cells c.lift.breaks) (cj h2 (cj h2 (cj (dltN_f h3) (cj (dltN_f h3) (cj (dltN_f h3) (cj (o_len (lcell ARat.cells) c.lift.pieces) (cj (dltN_f h3) (cj (dltN_f h3) (cj (dltN_f h4) (cj (dltN_f h4) (cj (dltN_f h4) (cj (o_len (lcell ARat.cells) c.lift.pieces) (cj (dltN_f h4) (cj (dltN_f h4) (cj (dltN_t h5) (cj (dltN_t h5) (cj (dltN_t h5) (cj (o_len (lcell ARat.cells) c.lift.pieces) (cj (dltN_t h5) (cj (dltN_f h4) (cj (dltN_t h5) (cj (dltN_f h4) (cj (dleN_t h6) True.intro)))))))))))))))))))))))))))) (by kernel_rfl))
theorem e4 (c : ACam) (lon : Bool) {r : PV} (h1 : Contract prg 42 [c.base.pv] (vB lon)) (h2 : lon = false) (h3 : c.lift.breaks.length ≤ 40) (h4 : c.lift.pieces.length ≤ 40) (h5 : 5 < c.lift.pieces.length) (h6 : 16 < c.lift.pieces.length) (hL : Loop1 0 c r) : Contract prg 41 [c.pv] r :=
  Contract.ofL Tryz.func41 (by kernel_rfl) (L.go mixed tabOk (n := 102) (ns := [1, 1, 1, 1, 1, 1, 1, 1, 1, 1, 1, 1, 1, 1, 1, 1, 1, 1, 1, 1, 1, 1, 1, 1, 1, 1, 1, 1]) (tr := [.reg [], .reg [], .reg [.none, .none, (.pv (vB lon)), .none, .none, .none, (iI (c.lift.breaks.length : Int)), .none, (.dec false), .none, .none, .none, (iI (c.lift.pieces.length : Int)), .none, (.dec false), .none, .none, .none, (iI (c.lift.pieces.length : Int)), .none, .none, .none, .none, (iI (c.lift.pieces.length : Int)), .none, (.dec true), (.dec false)], .dec false, .reg [], .keep [3, 4], .drop [1]]) (cj h1 (cj h2 (cj h2 (cj h2 (cj (o_len ARat.cells c.lift.breaks) (cj h2 (cj h2 (cj (dltN_f h3) (cj (dltN_f h3) (cj (dltN_f h3) (cj (o_len (lcell ARat.cells) c.lift.pieces) (cj (dltN_f h3) (cj (dltN_f h3) (cj (dltN_f h4) (cj (dltN_f h4) (cj (dltN_f h4) (cj (o_len (lcell ARat.cells) c.lift.pieces) (cj (dltN_f h4) (cj (dltN_f h4) (cj (dltN_t h5) (cj (dltN_t h5) (cj (dltN_t h5) (cj (o_len (lcell ARat.cells) c.lift.pieces) (cj (dltN_t h5) (cj (dltN_f h4) (cj (dltN_t h5) (cj (dltN_f h4) (cj (dleN_f h6) True.intro)))))))))))))))))))))))))))) (by kernel_rfl) hL)
theorem e5 (c : ACam) (lon : Bool) {r : PV} (h1 : Contract prg 42 [c.base.pv] (vB lon)) (h2 : lon = false) (h3 : c.lift.breaks.length ≤ 40) (h4 : c.lift.pieces.length ≤ 40) (h5 : c.lift.pieces.length ≤ 5) (hL : Loop1 0 c r) : Contract prg 41 [c.pv] r :=
  Contract.ofL Tryz.func41 (by kernel_rfl) (L.go mixed tabOk (n := 102) (ns := [1, 1, 1, 1, 1, 1, 1, 1, 1, 1, 1, 1, 1, 1, 1, 1, 1, 1, 1, 1, 1, 1, 1, 1, 1, 1]) (tr := [.reg [], .reg [], .reg [.none, .none, (.pv (vB lon)), .none, .none, .none, (iI (c.lift.breaks.length : Int)), .none, (.dec false), .none, .none, .none, (iI (c.lift.pieces.length : Int)), .none, (.dec false), .none, .none, .none, (iI (c.lift.pieces.length : Int)), .none, .none, .skip, .skip, .skip, .skip, (.dec false), (.dec false)], .auto, .reg [], .keep [3, 4], .drop [1]]) (cj h1 (cj h2 (cj h2 (cj h2 (cj (o_len ARat.cells c.lift.breaks) (cj h2 (cj h2 (cj (dltN_f h3) (cj (dltN_f h3) (cj (dltN_f h3) (cj (o_len (lcell ARat.cells) c.lift.pieces) (cj (dltN_f h3) (cj (dltN_f h3) (cj (dltN_f h4) (cj (dltN_f h4) (cj (dltN_f h4) (cj (o_len (lcell ARat.cells) c.lift.pieces) (cj (dltN_f h4) (cj (dltN_f h4) (cj (dltN_f h5) (cj (dltN_f h5) (cj (dltN_f h5) (cj (dltN_f h5) (cj (dltN_f h4) (cj (dltN_f h5) (cj (dltN_f h4) True.intro)))))))))))))))))))))))))) (by kernel_rfl) hL)
theorem l10 (i_4 : Nat) (c : ACam) (v : ARat) (lon : Bool) (h1 : i_4 < c.lift.breaks.length) (h2 : c.lift.breaks[i_4]? = some v) (h3 : Contract prg 42 [v.pv] (vB lon)) (h4 : lon = true) : Loop1 i_4 c (vB true) :=
  L.done mixed tabOk (n := 141) (ns := [1, 1, 3, 1, 1]) (tr := [.auto, .reg [.none, .none, .none, (iI (c.lift.breaks.length : Int))], .dec true, .reg [.none, .none, .none, (.row i_4 (ARat.cells v)), .none, (.pv (vB lon))], .dec true, .reg []]) (cj (o_len ARat.cells c.lift.breaks) (cj (dltN_t h1) (cj (o_at ARat.cells (Eq.refl (((i_4 : Nat) : Int) : Int)) h2) (cj h3 (cj h4 True.intro))))) (by kernel_rfl)
theorem l11 (i_4 : Nat) (c : ACam) (v : ARat) (lon : Bool) {r : PV} (h1 : i_4 < c.lift.breaks.length) (h2 : c.lift.breaks[i_4]? = some v) (h3 : Contract prg 42 [v.pv] (vB lon)) (h4 : lon = false) (h5 : (i_4 + 1) < 9223372036854775808) (hL : Loop1 (i_4 + 1) c r) : Loop1 i_4 c r :=
  L.go mixed tabOk (n := 144) (ns := [1, 1, 3, 1, 1, 1]) (tr := [.auto, .reg [.none, .none, .none, (iI (c.lift.breaks.length : Int))], .dec true, .reg [.none, .none, .none, (.row i_4 (ARat.cells v)), .none, (.pv (vB lon))], .dec false, .reg [.none, (iI (((i_4 + 1) : Nat) : Int))], .keep [3, 4]]) (cj (o_len ARat.cells c.lift.breaks) (cj (dltN_t h1) (cj (o_at ARat.cells (Eq.refl (((i_4 : Nat) : Int) : Int)) h2) (cj h3 (cj h4 (cj (bs_addN h5) True.intro)))))) (by kernel_rfl) hL
theorem l12 (i_4 : Nat) (c : ACam) {r : PV} (h1 : c.lift.breaks.length ≤ i_4) (hL : Loop2 0 c r) : Loop1 i_4 c r :=
  L.go mixed tabOk (n := 144) (ns := [1, 1]) (tr := [.auto, .reg [.none, .none, .none, (iI (c.lift.breaks.length : Int))], .dec false, .reg [], .keep [3, 5]]) (cj (o_len ARat.cells c.lift.breaks) (cj (dltN_f h1) True.intro)) (by kernel_rfl) hL
theorem l20 (i_5 : Nat) (c : ACam) (v : List ARat) (h1 : i_5 < c.lift.pieces.length) (h2 : c.lift.pieces[i_5]? = some v) (h3 : 6 < v.length) (h4 : v.length ≤ 9) : Loop2 i_5 c (vB true) :=
  L.done mixed tabOk (n := 186) (ns := [1, 1, 3, 1, 1, 1, 1, 1, 3, 1, 1, 1, 1, 1, 1, 1, 1, 1, 1, 1, 1, 1]) (tr := [.auto, .reg [.none, .none, .none, (iI (c.lift.pieces.length : Int))], .dec true, .reg [.none, .none, .none, (.row i_5 ((lcell ARat.cells) v)), .none, (iI (v.length : Int)), .none, .none, .none, .none, .none, (.row i_5 ((lcell ARat.cells) v)), .none, (iI (v.length : Int)), .none, (.dec true), .none, .skip, .skip, .skip, .skip, .skip, .skip, .skip, (.dec true)], .auto, .reg []]) (cj (o_len (lcell ARat.cells) c.lift.pieces) (cj (dltN_t h1) (cj (o_at (lcell ARat.cells) (Eq.refl (((i_5 : Nat) : Int) : Int)) h2) (cj (o_len ARat.cells v) (cj (dltN_t h3) (cj (dltN_t h3) (cj (dltN_t h3) (cj (dltN_t h3) (cj (o_at (lcell ARat.cells) (Eq.refl (((i_5 : Nat) : Int) : Int)) h2) (cj (dltN_t h3) (cj (dltN_t h3) (cj (o_len ARat.cells v) (cj (dltN_t h3) (cj (dltN_t h3) (cj (dleN_t h4) (cj (dleN_t h4) (cj (dleN_t h4) (cj (dleN_t h4) (cj (dleN_t h4) (cj (dleN_t h4) (cj (dleN_t h4) (cj (dleN_t h4) True.intro)))))))))))))))))))))) (by kernel_rfl)
theorem l21 (i_5 : Nat) (c : ACam) (v : List ARat) (h1 : i_5 < c.lift.pieces.length) (h2 : c.lift.pieces[i_5]? = some v) (h3 : 6 < v.length) (h4 : 9 < v.length) (h5 : 80 < v.length) : Loop2 i_5 c (vB true) :=
  L.done mixed tabOk (n := 186) (ns := [1, 1, 3, 1, 1, 1, 1, 1, 3, 1, 1, 1, 1, 1, 1, 1, 1, 1, 3, 1, 1, 1, 1, 1, 1]) (tr := [.auto, .reg [.none, .none, .none, (iI (c.lift.pieces.length : Int))], .dec true, .reg [.none, .none, .none, (.row i_5 ((lcell ARat.cells) v)), .none, (iI (v.length : Int)), .none, .none, .none, .none, .none, (.row i_5 ((lcell ARat.cells) v)), .none, (iI (v.length : Int)), .none, (.dec true), .none, .none, .none, .none, (.row i_5 ((lcell ARat.cells) v)), .none, (iI (v.length : Int)), .none, (.dec false)], .dec true, .reg []]) (cj (o_len (lcell ARat.cells) c.lift.pieces) (cj (dltN_t h1) (cj (o_at (lcell ARat.cells) (Eq.refl (((i_5 : Nat) : Int) : Int)) h2) (cj (o_len ARat.cells v) (cj (dltN_t h3) (cj (dltN_t h3) (cj (dltN_t h3) (cj (dltN_t h3) (cj (o_at (lcell ARat.cells) (Eq.refl (((i_5 : Nat) : Int) : Int)) h2) (cj (dltN_t h3) (cj (dltN_t h3) (cj (o_len ARat.cells v) (cj (dltN_t h3) (cj (dltN_t h3) (cj (dleN_f h4) (cj (dleN_f h4) (cj (dleN_f h4) (cj (dleN_f h4) (cj (o_at (lcell ARat.cells) (Eq.refl (((i_5 : Nat) : Int) : Int)) h2) (cj (dleN_f h4) (cj (dleN_f h4) (cj (o_len ARat.cells v) (cj (dleN_f h4) (cj (dleN_f h4) (cj (dltN_t h5) True.intro))))))))))))))))))))))))) (by kernel_rfl)
theorem l22 (i_5 : Nat) (c : ACam) (v : List ARat) {r : PV} (h1 : i_5 < c.lift.pieces.length) (h2 : c.lift.pieces[i_5]? = some v) (h3 : 6 < v.length) (h4 : 9 < v.length) (h5 : v.length ≤ 80) (hL : Loop3 i_5 0 c r) : Loop2 i_5 c r :=
  L.go mixed tabOk (n := 195) (ns := [1, 1, 3, 1, 1, 1, 1, 1, 3, 1, 1, 1, 1, 1, 1, 1, 1, 1, 3, 1, 1, 1, 1, 1, 1]) (tr := [.auto, .reg [.none, .none, .none, (iI (c.lift.pieces.length : Int))], .dec true, .reg [.none, .none, .none, (.row i_5 ((lcell ARat.cells) v)), .none, (iI (v.length : Int)), .none, .none, .none, .none, .none, (.row i_5 ((lcell ARat.cells) v)), .none, (iI (v.length : Int)), .none, (.dec true), .none, .none, .none, .none, (.row i_5 ((lcell ARat.cells) v)), .none, (iI (v.length : Int)), .none, (.dec false)], .dec false, .reg [], .keep [3, 5, 6]]) (cj (o_len (lcell ARat.cells) c.lift.pieces) (cj (dltN_t h1) (cj (o_at (lcell ARat.cells) (Eq.refl (((i_5 : Nat) : Int) : Int)) h2) (cj (o_len ARat.cells v) (cj (dltN_t h3) (cj (dltN_t h3) (cj (dltN_t h3) (cj (dltN_t h3) (cj (o_at (lcell ARat.cells) (Eq.refl (((i_5 : Nat) : Int) : Int)) h2) (cj (dltN_t h3) (cj (dltN_t h3) (cj (o_len ARat.cells v) (cj (dltN_t h3) (cj (dltN_t h3) (cj (dleN_f h4) (cj (dleN_f h4) (cj (dleN_f h4) (cj (dleN_f h4) (cj (o_at (lcell ARat.cells) (Eq.refl (((i_5 : Nat) : Int) : Int)) h2) (cj (dleN_f h4) (cj (dleN_f h4) (cj (o_len ARat.cells v) (cj (dleN_f h4) (cj (dleN_f h4) (cj (dltN_f h5) True.intro))))))))))))))))))))))))) (by kernel_rfl) hL
theorem l24 (i_5 : Nat) (c : ACam) (v : List ARat) {r : PV} (h1 : i_5 < c.lift.pieces.length) (h2 : c.lift.pieces[i_5]? = some v) (h3 : v.length ≤ 6) (h4 : v.length ≤ 80) (hL : Loop3 i_5 0 c r) : Loop2 i_5 c r :=
  L.go mixed tabOk (n := 195) (ns := [1, 1, 3, 1, 1, 1, 1, 1, 1, 1, 1, 1, 1, 1, 1, 1, 3, 1, 1, 1, 1, 1]) (tr := [.auto, .reg [.none, .none, .none, (iI (c.lift.pieces.length : Int))], .dec true, .reg [.none, .none, .none, (.row i_5 ((lcell ARat.cells) v)), .none, (iI (v.length : Int)), .none, .none, .skip, .skip, .skip, .skip, .skip, .skip, .skip, (.dec false), .none, .none, .none, .none, (.row i_5 ((lcell ARat.cells) v)), .none, (iI (v.length : Int))], .dec false, .reg [], .keep [3, 5, 6]]) (cj (o_len (lcell ARat.cells) c.lift.pieces) (cj (dltN_t h1) (cj (o_at (lcell ARat.cells) (Eq.refl (((i_5 : Nat) : Int) : Int)) h2) (cj (o_len ARat.cells v) (cj (dltN_f h3) (cj (dltN_f h3) (cj (dltN_f h3) (cj (dltN_f h3) (cj (dltN_f h3) (cj (dltN_f h3) (cj (dltN_f h3) (cj (dltN_f h3) (cj (Eq.refl false) (cj (Eq.refl false) (cj (Eq.refl false) (cj (Eq.refl false) (cj (o_at (lcell ARat.cells) (Eq.refl (((i_5 : Nat) : Int) : Int)) h2) (cj (Eq.refl false) (cj (Eq.refl false) (cj (o_len ARat.cells v) (cj (Eq.refl false) (cj (dltN_f h4) True.intro)))))))))))))))))))))) (by kernel_rfl) hL
theorem l25 (i_5 : Nat) (c : ACam) (h1 : c.lift.pieces.length ≤ i_5) : Loop2 i_5 c (vB false) :=
  L.done mixed tabOk (n := 177) (ns := [1, 1]) (tr := [.auto, .reg [.none, .none, .none, (iI (c.lift.pieces.length : Int))], .dec false, .reg []]) (cj (o_len (lcell ARat.cells) c.lift.pieces) (cj (dltN_f h1) True.intro)) (by kernel_rfl)
theorem l30 (i_5 k_6 : Nat) (c : ACam) (v : List ARat) (v1 : ARat) (lon : Bool) (h1 : c.lift.pieces[i_5]? = some v) (h2 : k_6 < v.length) (h3 : v[k_6]? = some v1) (h4 : Contract prg 42 [v1.pv] (vB lon)) (h5 : lon = true) : Loop3 i_5 k_6 c (vB true) :=
  L.done mixed tabOk (n := 234) (ns := [3, 1, 1, 3, 3, 1, 1]) (tr := [.auto, .reg [.none, .none, .none, .none, (.row i_5 ((lcell ARat.cells) v)), .none, (iI (v.length : Int))], .dec true, .reg [.none, .none, .none, (.row i_5 ((lcell ARat.cells) v)), .none, .none, (.row k_6 (ARat.cells v1)), .none, (.pv (vB lon))], .dec true, .reg []]) (cj (o_at (lcell ARat.cells) (Eq.refl (((i_5 : Nat) : Int) : Int)) h1) (cj (o_len ARat.cells v) (cj (dltN_t h2) (cj (o_at (lcell ARat.cells) (Eq.refl (((i_5 : Nat) : Int) : Int)) h1) (cj (o_at ARat.cells (Eq.refl (((k_6 : Nat) : Int) : Int)) h3) (cj h4 (cj h5 True.intro))))))) (by kernel_rfl)
theorem l31 (i_5 k_6 : Nat) (c : ACam) (v : List ARat) (v1 : ARat) (lon : Bool) {r : PV} (h1 : c.lift.pieces[i_5]? = some v) (h2 : k_6 < v.length) (h3 : v[k_6]? = some v1) (h4 : Contract prg 42 [v1.pv] (vB lon)) (h5 : lon = false) (h6 : (k_6 + 1) < 9223372036854775808) (hL : Loop3 i_5 (k_6 + 1) c r) : Loop3 i_5 k_6 c r :=
  L.go mixed tabOk (n := 237) (ns := [3, 1, 1, 3, 3, 1, 1, 1]) (tr := [.auto, .reg [.none, .none, .none, .none, (.row i_5 ((lcell ARat.cells) v)), .none, (iI (v.length : Int))], .dec true, .reg [.none, .none, .none, (.row i_5 ((lcell ARat.cells) v)), .none, .none, (.row k_6 (ARat.cells v1)), .none, (.pv (vB lon))], .dec false, .reg [.none, (iI (((k_6 + 1) : Nat) : Int))], .keep [3, 5, 6]]) (cj (o_at (lcell ARat.cells) (Eq.refl (((i_5 : Nat) : Int) : Int)) h1) (cj (o_len ARat.cells v) (cj (dltN_t h2) (cj (o_at (lcell ARat.cells) (Eq.refl (((i_5 : Nat) : Int) : Int)) h1) (cj (o_at ARat.cells (Eq.refl (((k_6 : Nat) : Int) : Int)) h3) (cj h4 (cj h5 (cj (bs_addN h6) True.intro)))))))) (by kernel_rfl) hL
theorem l32 (i_5 k_6 : Nat) (c : ACam) (v : List ARat) {r : PV} (h1 : c.lift.pieces[i_5]? = some v) (h2 : v.length ≤ k_6) (h3 : (i_5 + 1) < 9223372036854775808) (hL : Loop2 (i_5 + 1) c r) : Loop3 i_5 k_6 c r :=
  L.go mixed tabOk (n := 228) (ns := [3, 1, 1, 1]) (tr := [.auto, .reg [.none, .none, .none, .none, (.row i_5 ((lcell ARat.cells) v)), .none, (iI (v.length : Int))], .dec false, .reg [.none, (iI (((i_5 + 1) : Nat) : Int))], .keep [3, 5]]) (cj (o_at (lcell ARat.cells) (Eq.refl (((i_5 : Nat) : Int) : Int)) h1) (cj (o_len ARat.cells v) (cj (dltN_f h2) (cj (bs_addN h3) True.intro)))) (by kernel_rfl) hL
end linkworklaw53_large
namespace linkworklaw53_long
theorem e0 (x : ARat) (h1 : (x.num.length + x.den.length) < 9223372036854775808) : Contract prg 42 [x.pv] (vB (decide ((((x.num.length + x.den.length) : Nat) : Int) > 2))) :=
  Contract.ofL Tryz.func42 (by kernel_rfl) (L.done mixed tabOk (n := 72) (ns := [1, 1, 1]) (tr := [.reg [], .reg [.none, .none, (iI (x.num.length : Int)), .none, .none, (iI (x.den.length : Int)), (iI (((x.num.length + x.den.length) : Nat) : Int))]]) (cj (o_len wordPV x.num) (cj (o_len wordPV x.den) (cj (bs_addN h1) True.intro))) (by kernel_rfl))
end linkworklaw53_long
namespace linkworklaw53_example
theorem e0 (par par1 : ARat) (h1 : Contract prg 105 [(vI 1), (vI 1)] par.pv) (h2 : Contract prg 105 [(vI 1), (vI 1)] par1.pv) : Contract prg 104 [] ((⟨par, (⟨[(⟨false, [], []⟩ : ARat)], [[(⟨false, [], []⟩ : ARat), par1]]⟩ : ALaw)⟩ : ACam).pv) :=
  Contract.ofL Tryz.func104 (by kernel_rfl) (L.done mixed tabOk (n := 72) (ns := [1, 3, 1, 3, 3]) (tr := [.reg [], .reg [(.pv par.pv), .none, (.slc 0 0 (([(⟨false, [], []⟩ : ARat)] : List ARat).map ARat.cells)), .none, (.pv par1.pv), (.slc 0 0 (([(⟨false, [], []⟩ : ARat), par1] : List ARat).map ARat.cells)), (.slc 0 0 (([[(⟨false, [], []⟩ : ARat), par1]] : List (List ARat)).map (lcell ARat.cells)))]]) (cj h1 (cj (o_bs sz_ARat ([(⟨false, [], []⟩ : ARat)] : List ARat)) (cj h2 (cj (o_bs sz_ARat ([(⟨false, [], []⟩ : ARat), par1] : List ARat)) (cj (o_bs (sz_l ARat.cells) ([[(⟨false, [], []⟩ : ARat), par1]] : List (List ARat))) True.intro))))) (by kernel_rfl))
end linkworklaw53_example
namespace linkworklaw53_part
theorem e0 (n d : Int) (mak : ARat) (mak1 : Int) (h1 : Contract prg 86 [(vI n), (vI d)] (.tup [mak.pv, (vI mak1)])) : Contract prg 105 [(vI n), (vI d)] mak.pv :=
  Contract.ofL Tryz.func105 (by kernel_rfl) (L.done mixed tabOk (n := 78) (ns := [1]) (tr := [.reg [], .reg [.none, .none, (.pv (.tup [mak.pv, (vI mak1)]))], .reg []]) (cj h1 True.intro) (by kernel_rfl))
end linkworklaw53_part
end Go.Proofs.YtbgkjomonebfcaaGreat.Sym.Path
namespace Go.Proofs.YtbgkjomonebfcaaGreat.Sym
open Go Path CInt
set_option linter.unusedVariables false
theorem short_valid {a : ARat} (hv : a.valid = true) (h : a.num.length + a.den.length ≤ 2) : a.num.length ≤ 1 ∧ a.den.length ≤ 1 := by
  by_cases h0 : a.num = []
  · rw [valid_zero hv h0]; simp
  · obtain ⟨h1, _⟩ := valid_parts hv h0
    have := List.length_pos_iff.2 h0
    have := List.length_pos_iff.2 h1
    omega
namespace C53
theorem part (n d : Int) (hn : InI64 n) (hd : InI64 d) (h0 : d ≠ 0) : Contract prg 105 [vI n, vI d] (mkR (Rat.divInt n d)).pv :=
  linkworklaw53_part.e0 n d _ _ (CRb.Make n d hn hd h0)
def exC : ACam := ⟨mkR (Rat.divInt 1 1), ⟨[⟨false, [], []⟩], [[⟨false, [], []⟩, mkR (Rat.divInt 1 1)]]⟩⟩
theorem example' : Contract prg 104 [] exC.pv :=
  linkworklaw53_example.e0 _ _ (part 1 1 (by unfold InI64; decide) (by unfold InI64; decide) (by decide)) (part 1 1 (by unfold InI64; decide) (by unfold InI64; decide) (by decide))
theorem exC_good : GCam exC := ⟨by decide +kernel, by decide +kernel, by decide +kernel, by decide +kernel, ⟨by decide +kernel, by decide +kernel⟩, by decide +kernel⟩
theorem exC_conv : convC exC = true := by decide +kernel
theorem ratR' (q : Rat) (hq : ht q ≤ 68719476736) : Contract prg 49 [(mkR q).pv, (mkR q).pv] (vB true) := by
  have h := fit_mkRk hq
  have := CBa.Rat (mkR q) (mkR q) (by omega) (by omega)
  rwa [eqR_self] at this
theorem awake : Contract prg 40 [] (vB true) := by
  have p1 := part 113 710 (by unfold InI64; decide) (by unfold InI64; decide) (by decide)
  have p2 := part 53 333 (by unfold InI64; decide) (by unfold InI64; decide) (by decide)
  have hpr := CCa.Pressure exC_good 0 (by decide) (by decide +kernel)
  have hcv := CCa.Convex exC_good
  rw [exC_conv] at hcv
  have e1 : minR (tanP exC 0 piHi) (tanP exC 0 piLo) = Rat.divInt 113 710 := by decide +kernel
  have e2 : maxR (tanP exC 0 piHi) (tanP exC 0 piLo) = Rat.divInt 53 333 := by decide +kernel
  rw [e1, e2] at hpr
  exact linkworklaw53_awake.e0 _ _ _ _ _ _ _ _ example' hpr example' hcv rfl p1 (ratR' _ (by decide +kernel)) rfl p2 (ratR' _ (by decide +kernel))
theorem long (x : ARat) (h : x.num.length + x.den.length < 9223372036854775808) : Contract prg 42 [x.pv] (vB (decide (2 < x.num.length + x.den.length))) := by
  have := linkworklaw53_long.e0 x h
  rwa [show decide ((((x.num.length + x.den.length) : Nat) : Int) > 2) = decide (2 < x.num.length + x.den.length) from by congr 1; apply propext; omega] at this
abbrev S2 (l : List ARat) : Prop := ∀ a ∈ l, a.num.length + a.den.length ≤ 2
structure SmallC (c : ACam) : Prop where
  base : c.base.num.length + c.base.den.length ≤ 2
  nb : c.lift.breaks.length ≤ 40
  np : c.lift.pieces.length ≤ 40
  nq : c.lift.pieces.length ≤ 5 ∨ 16 < c.lift.pieces.length
  sb : S2 c.lift.breaks
  sp : ∀ p ∈ c.lift.pieces, S2 p ∧ p.length ≤ 80 ∧ (p.length ≤ 6 ∨ 9 < p.length)
def Held (c : ACam) : Prop := c.base.num.length + c.base.den.length < 9223372036854775808 ∧ (∀ a ∈ c.lift.breaks, a.num.length + a.den.length < 9223372036854775808) ∧ ∀ p ∈ c.lift.pieces, ∀ a ∈ p, a.num.length + a.den.length < 9223372036854775808
theorem large (c : ACam) (hh : Held c) : Contract prg 41 [c.pv] (vB true) ∨ (SmallC c ∧ Contract prg 41 [c.pv] (vB false)) := by
  have hlb := long c.base hh.1
  by_cases h0 : 2 < c.base.num.length + c.base.den.length
  · exact Or.inl (linkworklaw53_large.e0 c _ hlb (decide_eq_true h0))
  have h0' := decide_eq_false h0
  by_cases h1 : 40 < c.lift.breaks.length
  · exact Or.inl (linkworklaw53_large.e1 c _ hlb h0' h1)
  by_cases h2 : 40 < c.lift.pieces.length
  · exact Or.inl (linkworklaw53_large.e2 c _ hlb h0' (by omega) h2)
  by_cases h3 : 5 < c.lift.pieces.length ∧ c.lift.pieces.length ≤ 16
  · exact Or.inl (linkworklaw53_large.e3 c _ hlb h0' (by omega) (by omega) h3.1 h3.2)
  have loop3 : ∀ (i : Nat) (v : List ARat), c.lift.pieces[i]? = some v → (linkworklaw53_large.Loop2 (i + 1) c (vB true) ∨ ((∀ p ∈ c.lift.pieces.drop (i + 1), S2 p ∧ p.length ≤ 80 ∧ (p.length ≤ 6 ∨ 9 < p.length)) ∧ linkworklaw53_large.Loop2 (i + 1) c (vB false))) →
      v.length ≤ 80 → ∀ (j k : Nat), v.length - k = j → (linkworklaw53_large.Loop3 i k c (vB true) ∨ (S2 (v.drop k) ∧ (∀ p ∈ c.lift.pieces.drop (i + 1), S2 p ∧ p.length ≤ 80 ∧ (p.length ≤ 6 ∨ 9 < p.length)) ∧ linkworklaw53_large.Loop3 i k c (vB false))) := by
    intro i v hv hnext hlv j
    have hi := (List.getElem?_eq_some_iff.1 hv).1
    induction j with
    | zero =>
      intro k hj
      rcases hnext with h | ⟨h, h'⟩
      · exact Or.inl (linkworklaw53_large.l32 i k c v hv (by omega) (by omega) h)
      · refine Or.inr ⟨?_, h, linkworklaw53_large.l32 i k c v hv (by omega) (by omega) h'⟩
        rw [List.drop_of_length_le (by omega)]; exact fun a ha => by cases ha
    | succ j ih =>
      intro k hj
      obtain ⟨u, hu⟩ : ∃ u, v[k]? = some u := ⟨_, List.getElem?_eq_getElem (by omega)⟩
      have hl := long u (hh.2.2 v (List.mem_of_getElem? hv) u (List.mem_of_getElem? hu))
      by_cases h4 : 2 < u.num.length + u.den.length
      · exact Or.inl (linkworklaw53_large.l30 i k c v u _ hv (by omega) hu hl (decide_eq_true h4))
      · rcases ih (k + 1) (by omega) with h | ⟨h, h', h''⟩
        · exact Or.inl (linkworklaw53_large.l31 i k c v u _ hv (by omega) hu hl (decide_eq_false h4) (by omega) h)
        · refine Or.inr ⟨?_, h', linkworklaw53_large.l31 i k c v u _ hv (by omega) hu hl (decide_eq_false h4) (by omega) h''⟩
          rw [drop_cons hu]
          intro a ha
          rcases List.mem_cons.1 ha with e | ha
          · rw [e]; omega
          · exact h a ha
  have loop2 : ∀ (j i : Nat), c.lift.pieces.length - i = j → (linkworklaw53_large.Loop2 i c (vB true) ∨ ((∀ p ∈ c.lift.pieces.drop i, S2 p ∧ p.length ≤ 80 ∧ (p.length ≤ 6 ∨ 9 < p.length)) ∧ linkworklaw53_large.Loop2 i c (vB false))) := by
    intro j
    induction j with
    | zero =>
      intro i hj
      refine Or.inr ⟨?_, linkworklaw53_large.l25 i c (by omega)⟩
      rw [List.drop_of_length_le (by omega)]; exact fun a ha => by cases ha
    | succ j ih =>
      intro i hj
      obtain ⟨v, hv⟩ : ∃ v, c.lift.pieces[i]? = some v := ⟨_, List.getElem?_eq_getElem (by omega)⟩
      by_cases h9 : 6 < v.length ∧ v.length ≤ 9
      · exact Or.inl (linkworklaw53_large.l20 i c v (by omega) hv h9.1 h9.2)
      · have go : ∀ b, linkworklaw53_large.Loop3 i 0 c (vB b) → v.length ≤ 80 → linkworklaw53_large.Loop2 i c (vB b) := by
          intro b hb h80
          by_cases h6 : 6 < v.length
          · exact linkworklaw53_large.l22 i c v (by omega) hv h6 (by omega) h80 hb
          · exact linkworklaw53_large.l24 i c v (by omega) hv (by omega) h80 hb
        by_cases h80 : 80 < v.length
        · exact Or.inl (linkworklaw53_large.l21 i c v (by omega) hv (by omega) (by omega) h80)
        · rcases loop3 i v hv (ih (i + 1) (by omega)) (by omega) _ 0 rfl with h | ⟨h, h', h''⟩
          · exact Or.inl (go _ h (by omega))
          · refine Or.inr ⟨?_, go _ h'' (by omega)⟩
            rw [drop_cons hv]
            intro p hp
            rcases List.mem_cons.1 hp with e | hp
            · rw [e]; exact ⟨by rwa [List.drop_zero] at h, by omega, by omega⟩
            · exact h' p hp
  have loop1 : ∀ (j i : Nat), c.lift.breaks.length - i = j → (linkworklaw53_large.Loop1 i c (vB true) ∨ (S2 (c.lift.breaks.drop i) ∧ (∀ p ∈ c.lift.pieces, S2 p ∧ p.length ≤ 80 ∧ (p.length ≤ 6 ∨ 9 < p.length)) ∧ linkworklaw53_large.Loop1 i c (vB false))) := by
    intro j
    induction j with
    | zero =>
      intro i hj
      rcases loop2 _ 0 rfl with h | ⟨h, h'⟩
      · exact Or.inl (linkworklaw53_large.l12 i c (by omega) h)
      · rw [List.drop_zero] at h
        refine Or.inr ⟨?_, h, linkworklaw53_large.l12 i c (by omega) h'⟩
        rw [List.drop_of_length_le (by omega)]; exact fun a ha => by cases ha
    | succ j ih =>
      intro i hj
      obtain ⟨u, hu⟩ : ∃ u, c.lift.breaks[i]? = some u := ⟨_, List.getElem?_eq_getElem (by omega)⟩
      have hl := long u (hh.2.1 u (List.mem_of_getElem? hu))
      by_cases h4 : 2 < u.num.length + u.den.length
      · exact Or.inl (linkworklaw53_large.l10 i c u _ (by omega) hu hl (decide_eq_true h4))
      · rcases ih (i + 1) (by omega) with h | ⟨h, h', h''⟩
        · exact Or.inl (linkworklaw53_large.l11 i c u _ (by omega) hu hl (decide_eq_false h4) (by omega) h)
        · refine Or.inr ⟨?_, h', linkworklaw53_large.l11 i c u _ (by omega) hu hl (decide_eq_false h4) (by omega) h''⟩
          rw [drop_cons hu]
          intro a ha
          rcases List.mem_cons.1 ha with e | ha
          · rw [e]; omega
          · exact h a ha
  have go : ∀ b, linkworklaw53_large.Loop1 0 c (vB b) → Contract prg 41 [c.pv] (vB b) := by
    intro b hb
    by_cases h5 : 5 < c.lift.pieces.length
    · exact linkworklaw53_large.e4 c _ hlb h0' (by omega) (by omega) h5 (by omega) hb
    · exact linkworklaw53_large.e5 c _ hlb h0' (by omega) (by omega) (by omega) hb
  rcases loop1 _ 0 rfl with h | ⟨h, h', h''⟩
  · exact Or.inl (go _ h)
  · rw [List.drop_zero] at h
    exact Or.inr ⟨⟨by omega, by omega, by omega, by omega, h, h'⟩, go _ h''⟩
theorem small_fit {c : ACam} (s : SmallC c) : FitW 2 c.lift := ⟨fun a ha => by have := s.sb a ha; omega, fun p hp a ha => by have := (s.sp p hp).1 a ha; omega⟩
theorem small_good {c : ACam} (s : SmallC c) (h : chkCam c = 0) : GCam c := by
  obtain ⟨h1, h2, h3⟩ := chkCam_zero h
  have g := good_of h1
  have hb := short_valid h2 s.base
  refine ⟨h1, h2, h3, ht_fit (k := 4) (by omega) (by omega) (by omega), ⟨fun a ha => short_valid (List.all_eq_true.1 g.valid a ha) (s.sb a ha), fun p hp a ha => short_valid (List.all_eq_true.1 (chk_valid (g.ps p hp).1) a ha) ((s.sp p hp).1 a ha)⟩, fun p hp => ?_⟩
  have := (s.sp p hp).2.2
  have := (g.ps p hp).2
  omega
end C53
end Go.Proofs.YtbgkjomonebfcaaGreat.Sym
namespace Go.Proofs.YtbgkjomonebfcaaGreat.Sym
open Go Go.RowKit Go.ChangeShapes Go.WideShapes
set_option linter.unusedVariables false
theorem opens_ALaw : Opens prg 74 ALaw.cells (fun l => (∀ a ∈ l.breaks, LenR a) ∧ ∀ p ∈ l.pieces, ∀ a ∈ p, LenR a) := by
  intro H enc w base spare held fuel cs x h hwt
  obtain ⟨fs, hu, e⟩ := flds_spec (show fldsOf (prg.underlying 74) = some [(22, 0), (72, 1)] by kernel_rfl)
  have hl := opens_struct hu h
  have hl : cs.length = 1 + 1 := hl.trans (by kernel_rfl)
  obtain ⟨a, r0, q0⟩ := opens_field hu h hwt 0 0 1 (e 0) (by kernel_rfl) opens_rats
  obtain ⟨b, r1, q1⟩ := opens_field hu h hwt 1 1 1 (e 1) (by kernel_rfl) opens_polys
  refine ⟨⟨a, b⟩, ?_, q0, q1⟩
  rw [split2 cs 1 1 hl]
  exact rdCells_append r0 r1
theorem opens_ACam : Opens prg 76 ACam.cells C53.Held := by
  intro H enc w base spare held fuel cs x h hwt
  obtain ⟨fs, hu, e⟩ := flds_spec (show fldsOf (prg.underlying 76) = some [(26, 0), (74, 3)] by kernel_rfl)
  have hl := opens_struct hu h
  have hl : cs.length = 3 + 2 := hl.trans (by kernel_rfl)
  obtain ⟨a, r0, q0⟩ := opens_field hu h hwt 0 0 3 (e 0) (by kernel_rfl) opens_ARat
  obtain ⟨b, r1, q1, q2⟩ := opens_field hu h hwt 1 3 2 (e 1) (by kernel_rfl) opens_ALaw
  refine ⟨⟨a, b⟩, ?_, lenR_sum q0, fun u hu => lenR_sum (q1 u hu), fun p hp u hu => lenR_sum (q2 p hp u hu)⟩
  rw [split2 cs 3 2 hl]
  exact rdCells_append r0 r1
end Go.Proofs.YtbgkjomonebfcaaGreat.Sym
namespace Go.Proofs.YtbgkjomonebfcaaGreat.Sym
open Go Path CInt
set_option linter.unusedVariables false
namespace C53
theorem CamDecides (c : ACam) (x : ARat) (hh : Held c) (hx : x.num.length + x.den.length < 9223372036854775808) : Contract prg 10 [c.pv, x.pv] (vB true) := by
  rcases large c hh with hl | ⟨s, hl⟩
  · exact linkworklaw53_CamDecides.e1 c x _ _ _ awake rfl hl rfl awake
  have lx := long x hx
  by_cases g1 : 2 < x.num.length + x.den.length
  · exact linkworklaw53_CamDecides.e2 c x _ _ _ _ awake rfl hl rfl lx (decide_eq_true g1) awake
  have hck := CCa.Check c (fitW_up (small_fit s) (by omega)) (by have := s.base; omega)
  have hck2 := CCr.Check c (fitW_up (small_fit s) (by omega)) (by have := s.base; omega)
  by_cases h : chkCam c = 0
  · have g := small_good s h
    rw [h] at hck hck2
    have hv := CRb.Valid x ⟨by omega, by omega⟩
    have hvf := CFr.Valid x ⟨by omega, by omega⟩
    have hsr := CRb.Sign x ⟨by omega, by omega⟩
    have hsf := CFr.Sign x ⟨by omega, by omega⟩
    have p1 := CCa.Positive g
    have p2 := CCr.Positive g
    have q1 := CCa.Convex g
    have q2 := CCr.Convex g
    cases hvx : x.valid with
    | false =>
      have w1 := cam_Within.e0 c x _ (CCa.check g) hvf hvx
      exact linkworklaw53_CamDecides.e4 c x _ _ _ _ _ (some 3) _ _ _ _ _ _ awake rfl hl rfl lx (decide_eq_false g1) p1 w1 q1 hck2 rfl p2 rfl q2 rfl hv hvx rfl (CBa.Is (some 3) 3)
    | true =>
      have hxe := mkR_of hvx
      have hxs := short_valid hvx (by omega : x.num.length + x.den.length ≤ 2)
      have hx4 : ht x.val ≤ 4 := ht_fit (by omega) (by omega) (by omega)
      by_cases h0 : 0 < x.val
      · have w1 := CCa.Within g hx4 h0
        have w2 := CCr.Within g hx4
        rw [hxe] at w1 w2
        have := linkworklaw53_CamDecides.e6 c x _ _ _ _ _ _ _ _ _ _ _ _ awake rfl hl rfl lx (decide_eq_false g1) p1 w1 q1 hck2 rfl p2 rfl q2 rfl hv hvx hsr (cmpR_gt.2 h0) w2
        rwa [show (withC c x.val == withC c x.val) = true from by simp] at this
      · have w1 := cam_Within.e1 c x _ _ (CCa.check g) hvf hvx hsf (cmpR_le.2 (by grind))
        exact linkworklaw53_CamDecides.e5 c x _ _ _ _ _ (some 3) _ _ _ _ _ _ _ awake rfl hl rfl lx (decide_eq_false g1) p1 w1 q1 hck2 rfl p2 rfl q2 rfl hv hvx hsr (cmpR_le.2 (by grind)) rfl (CBa.Is (some 3) 3)
  · rw [errOf_ne h] at hck
    have p1 := cam_Positive.e1 c _ hck
    have w1 := cam_Within.e3 c x _ hck
    have q1 := cam_Convex.e1 c _ hck
    have := linkworklaw53_CamDecides.e3 c x _ _ _ _ (some (chkCam c)) _ (some (chkCam c)) _ (some (chkCam c)) _ _ _ _ awake rfl hl rfl lx (decide_eq_false g1) p1 w1 q1 hck2 h rfl rfl rfl (CBa.Num _) rfl (CBa.Num _) rfl (CBa.Num _)
    rwa [show ((some (chkCam c)).getD 0 == chkCam c) = true from by simp] at this
end C53
end Go.Proofs.YtbgkjomonebfcaaGreat.Sym
namespace Go.Proofs.YtbgkjomonebfcaaGreat.Sym
open Go Go.RowKit Go.ChangeShapes Go.WideShapes Go.ChangeAt
set_option linter.unusedVariables false
namespace RowCamDecides
theorem own : ownKnob Tryz.prog.godebug = none := by kernel_rfl
theorem laid : laidOutB prg = true := by kernel_rfl
theorem okArg {P : Program} {W : World} {base : Nat} {ps : Array TypeId} {args : Array Value} (hval : ∀ (j : Nat) t v, ps[j]? = some t → args[j]? = some v → Value.okWide P W .any base t v) (j : Nat) {t : TypeId} {v : Value} (h1 : ps[j]? = some t) (h2 : args[j]? = some v) : Value.okWide P W .any base t v := hval j t v h1 h2
set_option maxRecDepth 100000 in
theorem contract (H : Type) (enc : TypeId × Value → H) (W : World) (base : Nat) (args : Array Value) (ds gs : List (DataW H)) (before : List MemPlace)
    (hval : ∀ (j : Nat) t v, Tryz.f10.params[j]? = some t → args[j]? = some v → Value.okWide Tryz.prog W .any base t v)
    (hW : DataW.Whole enc Tryz.prog Tryz.f10.params.toList Rows.camDecidesSpec.vars false W args.toList ds gs before)
    (hz : (DataW.weightsEach Tryz.prog (Tryz.f10.params.toList ++ Rows.camDecidesSpec.plain.varTypes Tryz.prog) (ds ++ gs)).all (· ≤ reachBytes) = true) :
    Calls Tryz.prog 10 args W fun e W' => ∃ v, e = .returned v ∧ Rows.camDecidesSpec.post enc Tryz.prog Tryz.f10 false true false false W args v W' := by
  have hW' := hW
  obtain ⟨p, q, hA, hV, rfl, hfz, hnd⟩ := hW
  have hp : Tryz.f10.params = #[76, 26] := by kernel_rfl
  rw [hp] at hA hval hz
  obtain ⟨v0, vs0, d0, ds0, p0, q0, hargs, rfl, rfl, h0, r0⟩ := trodAll_cons hA
  obtain ⟨v1, vs1, d1, ds1, p1, q1, rfl, rfl, rfl, h1, r1⟩ := trodAll_cons r0
  obtain ⟨rfl, rfl, rfl⟩ := trodAll_nil r1
  obtain rfl : args = #[v0, v1] := by cases args; simp_all
  obtain ⟨rfl, rfl⟩ := trodVars_none hV
  obtain ⟨n0, hn0⟩ := h0
  have hw0 : ∀ k ∈ d0.weights prg 76, k ≤ reachBytes := by
    intro k hk
    have := List.all_eq_true.1 hz k (DataW.weights_mem_each (j := 0) rfl rfl k hk)
    simpa using this
  obtain ⟨x0, hx0, b0⟩ := opens_ACam enc W 0 (fun _ => true) true n0 _ _ hn0 hw0
  obtain ⟨fs0, hu0, _⟩ := flds_spec (show fldsOf (prg.underlying 76) = some [(26, 0), (74, 3)] by kernel_rfl)
  have hv0 : Value.okWide Tryz.prog W .any base 76 v0 := okArg hval 0 (by simp) (by simp)
  have hrd0 : Rd (Old W) W x0.pv v0 := rd_struct (P := Tryz.prog) (cs := x0.cells) hu0 hv0 hx0
  obtain ⟨n1, hn1⟩ := h1
  have hw1 : ∀ k ∈ d1.weights prg 26, k ≤ reachBytes := by
    intro k hk
    have := List.all_eq_true.1 hz k (DataW.weights_mem_each (j := 1) rfl rfl k hk)
    simpa using this
  obtain ⟨x1, hx1, b1⟩ := opens_ARat enc W 0 (fun _ => true) true n1 _ _ hn1 hw1
  obtain ⟨fs1, hu1, _⟩ := flds_spec (show fldsOf (prg.underlying 26) = some [(4, 0), (24, 1), (24, 2)] by kernel_rfl)
  have hv1 : Value.okWide Tryz.prog W .any base 26 v1 := okArg hval 1 (by simp) (by simp)
  have hrd1 : Rd (Old W) W x1.pv v1 := rd_struct (P := Tryz.prog) (cs := x1.cells) hu1 hv1 hx1
  have hc := C53.CamDecides x0 x1 b0 (lenR_sum b1)
  refine (hc.2 (Old W) W (fun _ => none) #[v0, v1] (fun b hb => hb) ⟨(fun r sc h => by cases h), (fun r r' b h => by obtain ⟨_, h⟩ := h)⟩ rfl ?_).mono ?_
  · intro j e v he hv
    cases j with
    | zero => simp at he hv; subst he hv; exact hrd0
    | succ j =>
      cases j with
      | zero => simp at he hv; subst he hv; exact hrd1
      | succ j => simp at he
  · intro e W' ⟨v, β', he, _, hk, _, hv, _⟩
    subst he
    have hv : Rd _ W' (vB true) v := hv
    cases hv
    have hk' : Keeps (fun _ => False) W W' := ⟨hk.os, hk.tape, hk.output, hk.size, fun k h1 _ => hk.block k h1 (fun ⟨y, hy, _⟩ => by obtain ⟨_, hy⟩ := hy), hk.shape⟩
    refine ⟨_, rfl, post_true (tb := 4) hW' hk' rfl (by kernel_rfl) (by kernel_rfl) rfl rfl rfl laid ?_⟩
    rw [hp]
    intro t ht
    have : t = 76 ∨ t = 26 := by simpa using ht
    rcases this with rfl | rfl
    all_goals exact ⟨by kernel_rfl, of_decide_eq_true (by kernel_rfl)⟩
set_option maxRecDepth 100000 in
theorem lifted (os : Os) (started : os.Started) (H : Type) (enc : TypeId × Value → H) :
    ReturnsInHanded {} Tryz.checked os 10 .any (Rows.camDecidesSpec.pre6 enc Tryz.prog Tryz.f10 Rows.camDecidesRow.domain false) (Rows.camDecidesSpec.post enc Tryz.prog Tryz.f10 false true false false) := by
  refine returnsInHanded_of_change_sized (C := Tryz.checked) own started (by kernel_rfl) Tryz.func10
    (ChangeSpec.witness6 (enc := enc) (C := Tryz.checked) false ⟨#[], #[.agg #[.bool false, .slice none 0 0, .slice none 0 0, .slice none 0 0, .slice none 0 0], .agg #[.bool false, .slice none 0 0, .slice none 0 0]], []⟩ 8 (by kernel_rfl) (by kernel_rfl) (by kernel_rfl) (by kernel_rfl)) ?_
  intro W base args ds gs before hval hW _ hz _
  exact contract H enc W base args ds gs before hval hW hz
theorem j1 : (Rows.camDecidesRow.inPlace == Tryz.prog.inPlace 10) = true := by kernel_rfl
theorem j2 : (Rows.camDecidesRow.unfollowed == Tryz.prog.unfollowed 10) = true := by kernel_rfl
theorem j3 : (Rows.camDecidesRow.recurses == Tryz.prog.recurses 10) = true := by kernel_rfl
theorem j4 : (Rows.camDecidesRow.named == Tryz.prog.varsNamed 10) = true := by kernel_rfl
theorem closed : joinedFacts Tryz.prog 10 Tryz.f10 Rows.camDecidesSpec Rows.camDecidesRow = true := by
  unfold joinedFacts
  rw [j1, j2, j3, j4]
  kernel_rfl
theorem proved : Rows.CamDecidesSaid :=
  OpenClaim.holds_of_wide 10 Tryz.f10 rfl rfl rfl rfl rfl rfl rfl ⟨rfl, rfl, rfl, rfl, rfl⟩ rfl rfl rfl rfl rfl (by kernel_rfl) Tryz.func10 closed
    (of_decide_eq_true (by kernel_rfl)) (by unfold Func.isWrapper; first | (rw [if_pos (by decide +kernel)]; kernel_rfl) | (rw [if_neg (by decide +kernel)]; exact ⟨rfl, rfl⟩))
    (fun os started H enc _ => lifted os started H enc)
end RowCamDecides
end Go.Proofs.YtbgkjomonebfcaaGreat.Sym
