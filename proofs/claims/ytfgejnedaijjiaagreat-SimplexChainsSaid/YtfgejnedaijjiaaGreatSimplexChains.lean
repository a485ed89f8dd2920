/- At every input the call answers true and leaves its arguments as they were; no conditions. -/
import Derived.Test.YtfgejnedaijjiaaGreatSimplexChainsW
import Derived.Test.YtfgejnedaijjiaaGreatQz
set_option linter.unusedSimpArgs false
set_option linter.unusedVariables false
namespace Go.Proofs.YtfgejnedaijjiaaGreat
open Go Go.Abs Go.ChangeShapes Go.WideShapes Go.ChangeAt Go.RowKit
set_option maxRecDepth 100000
theorem simplexChains_lifted (os : Os) (started : os.Started) (H : Type) (enc : TypeId × Value → H) :
    ReturnsInHanded {} Tryz.checked os 6 .any (Rows.simplexChainsSpec.pre6 enc Tryz.prog Tryz.f6 Rows.simplexChainsRow.domain false) (Rows.simplexChainsSpec.post enc Tryz.prog Tryz.f6 false true false false) := by
  refine returnsInHanded_of_change (C := Tryz.checked) Tryz.ownK started (by kernel_rfl) Tryz.func6
    (ChangeSpec.witness6 (enc := enc) (C := Tryz.checked) false ⟨#[], #[.int .u8 0], []⟩ 8 (by kernel_rfl) (by kernel_rfl) (by kernel_rfl) (by kernel_rfl)) ?_
  intro W base args ds gs before hval hW _ _
  refine row_of_pcall (S := plainS) (tb := 4) plain_ok Tryz.laidOut (by intro t ht; revert t; decide +kernel) rfl Tryz.underlying4 rfl (fun ds h => ?_) (fun tvs h => ?_) hval hW
  · match ds, h with
    | [d0], _ => rfl
  · obtain ⟨x0, _, rfl, h0, h⟩ := wtvs_cons h
    obtain rfl := wtvs_nil h
    obtain ⟨n0, rfl, k0⟩ := wtv_int Tryz.underlying5 h0
    have k0 := wf_u8 k0
    exact p_SimplexChains n0 k0.1 k0.2

theorem simplexChains_holds : Rows.SimplexChainsSaid :=
  OpenClaim.holds_of_wide 6 Tryz.f6 rfl rfl rfl rfl rfl rfl rfl ⟨rfl, rfl, rfl, rfl, rfl⟩ rfl rfl rfl rfl rfl (by kernel_rfl) Tryz.func6 (by kernel_rfl)
    (of_decide_eq_true (by kernel_rfl)) (by unfold Func.isWrapper; first | (rw [if_pos (by decide +kernel)]; kernel_rfl) | (rw [if_neg (by decide +kernel)]; exact ⟨rfl, rfl⟩))
    (fun os started H enc _ => simplexChains_lifted os started H enc)
end Go.Proofs.YtfgejnedaijjiaaGreat
