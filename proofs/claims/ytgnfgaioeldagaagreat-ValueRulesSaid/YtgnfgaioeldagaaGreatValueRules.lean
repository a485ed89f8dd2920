/- At every input the call answers true and leaves its arguments as they were; no conditions. -/
import Derived.Test.YtgnfgaioeldagaaGreatValueRulesW
import Derived.Test.YtgnfgaioeldagaaGreatQv
import Derived.Test.YtgnfgaioeldagaaGreatSd
import Derived.Test.YtgnfgaioeldagaaGreatXb
set_option linter.unusedSimpArgs false
set_option linter.unusedVariables false
namespace Go.Proofs.YtgnfgaioeldagaaGreat
open Go Go.Abs Go.ChangeShapes Go.WideShapes Go.ChangeAt Go.RowKit
set_option maxRecDepth 100000
theorem valueRules_lifted (os : Os) (started : os.Started) (H : Type) (enc : TypeId × Value → H) :
    ReturnsInHanded {} Tryz.checked os 4 .any (Rows.valueRulesSpec.pre6 enc Tryz.prog Tryz.f4 Rows.valueRulesRow.domain false) (Rows.valueRulesSpec.post enc Tryz.prog Tryz.f4 false true false false) := by
  refine returnsInHanded_of_change (C := Tryz.checked) Tryz.ownK started (by kernel_rfl) Tryz.func4
    (ChangeSpec.witness6 (enc := enc) (C := Tryz.checked) false ⟨#[], #[.agg #[.int .i64 0, .bool false, .slice none 0 0, .string { data := #[] }, .int .i64 0, .slice none 0 0], .agg #[.int .i64 0, .bool false, .slice none 0 0, .string { data := #[] }, .int .i64 0, .slice none 0 0], .agg #[.int .i64 0, .bool false, .slice none 0 0, .string { data := #[] }, .int .i64 0, .slice none 0 0], .agg #[.int .i64 0, .bool false, .slice none 0 0, .string { data := #[] }, .int .i64 0, .slice none 0 0], .slice none 0 0, .int .i16 0], []⟩ 8 (by kernel_rfl) (by kernel_rfl) (by kernel_rfl) (by kernel_rfl)) ?_
  intro W base args ds gs before hval hW _ _
  refine row_of_pcall (S := plainSV) (tb := 4) plainV_ok Tryz.laidOut (by intro t ht; revert t; decide +kernel) rfl Tryz.underlying4 rfl (fun ds h => ?_) (fun tvs h => ?_) hval hW
  · match ds, h with
    | [d0, d1, d2, d3, d4, d5], _ => rfl
  · obtain ⟨x0, _, rfl, h0, h⟩ := wtvs_cons h
    obtain ⟨x1, _, rfl, h1, h⟩ := wtvs_cons h
    obtain ⟨x2, _, rfl, h2, h⟩ := wtvs_cons h
    obtain ⟨x3, _, rfl, h3, h⟩ := wtvs_cons h
    obtain ⟨x4, _, rfl, h4, h⟩ := wtvs_cons h
    obtain ⟨x5, _, rfl, h5, h⟩ := wtvs_cons h
    obtain rfl := wtvs_nil h
    obtain ⟨t0, rfl, k0⟩ := wtv_Term h0
    obtain ⟨t1, rfl, k1⟩ := wtv_Term h1
    obtain ⟨t2, rfl, k2⟩ := wtv_Term h2
    obtain ⟨t3, rfl, k3⟩ := wtv_Term h3
    obtain ⟨m4, rfl, k4⟩ := wtv_Funs h4
    obtain ⟨n5, rfl, k5⟩ := wtv_int Tryz.underlying46 h5
    have k5 := wf_i16 k5
    exact p_ValueRules smallSpec idxSpec cmpSpec t0 k0 t1 k1 t2 k2 t3 k3 m4 k4 n5 k5.1 k5.2

theorem valueRules_holds : Rows.ValueRulesSaid :=
  OpenClaim.holds_of_wide 4 Tryz.f4 rfl rfl rfl rfl rfl rfl rfl ⟨rfl, rfl, rfl, rfl, rfl⟩ rfl rfl rfl rfl rfl (by kernel_rfl) Tryz.func4 (by kernel_rfl)
    (of_decide_eq_true (by kernel_rfl)) (by unfold Func.isWrapper; first | (rw [if_pos (by decide +kernel)]; kernel_rfl) | (rw [if_neg (by decide +kernel)]; exact ⟨rfl, rfl⟩))
    (fun os started H enc _ => valueRules_lifted os started H enc)
end Go.Proofs.YtgnfgaioeldagaaGreat
