/- At every input the call answers true and leaves its arguments as they were; no conditions. -/
import Derived.Test.YtpnmoecjhannnaaGreatRatTellsW
import Derived.Test.YtpnmoecjhannnaaGreatQe
set_option linter.unusedSimpArgs false
set_option linter.unusedVariables false
namespace Go.Proofs.YtpnmoecjhannnaaGreat
open Go Go.Abs Go.ChangeShapes Go.WideShapes Go.ChangeAt Go.RowKit
set_option maxRecDepth 100000
theorem ratTells_lifted (os : Os) (started : os.Started) (H : Type) (enc : TypeId × Value → H) :
    ReturnsInHanded {} Tryz.checked os 3 .any (Rows.ratTellsSpec.pre6 enc Tryz.prog Tryz.f3 Rows.ratTellsRow.domain false) (Rows.ratTellsSpec.post enc Tryz.prog Tryz.f3 false true false false) := by
  refine returnsInHanded_of_change (C := Tryz.checked) Tryz.ownK started (by kernel_rfl) Tryz.func3
    (ChangeSpec.witness6 (enc := enc) (C := Tryz.checked) false ⟨#[], #[.agg #[.bool false, .slice none 0 0, .slice none 0 0], .agg #[.bool false, .slice none 0 0, .slice none 0 0], .agg #[.bool false, .slice none 0 0], .agg #[.bool false, .slice none 0 0]], []⟩ 8 (by kernel_rfl) (by kernel_rfl) (by kernel_rfl) (by kernel_rfl)) ?_
  intro W base args ds gs before hval hW _ _
  refine row_of_pcall (S := plainS) (tb := 4) plain_ok Tryz.laidOut (by intro t ht; revert t; decide +kernel) rfl Tryz.underlying4 rfl (fun ds h => ?_) (fun tvs h => ?_) hval hW
  · match ds, h with
    | [d0, d1, d2, d3], _ => rfl
  · obtain ⟨x0, _, rfl, h0, h⟩ := wtvs_cons h
    obtain ⟨x1, _, rfl, h1, h⟩ := wtvs_cons h
    obtain ⟨x2, _, rfl, h2, h⟩ := wtvs_cons h
    obtain ⟨x3, _, rfl, h3, h⟩ := wtvs_cons h
    obtain rfl := wtvs_nil h
    obtain ⟨s0, a0, d0, rfl⟩ := wtv_Rat h0
    obtain ⟨s1, a1, d1, rfl⟩ := wtv_Rat h1
    obtain ⟨s2, a2, rfl, _⟩ := wtv_Int h2
    obtain ⟨s3, a3, rfl, _⟩ := wtv_Int h3
    exact p_RatTells s0 a0 d0 s1 a1 d1 s2 a2 s3 a3

theorem ratTells_holds : Rows.RatTellsSaid :=
  OpenClaim.holds_of_wide 3 Tryz.f3 rfl rfl rfl rfl rfl rfl rfl ⟨rfl, rfl, rfl, rfl, rfl⟩ rfl rfl rfl rfl rfl (by kernel_rfl) Tryz.func3 (by kernel_rfl)
    (of_decide_eq_true (by kernel_rfl)) (by unfold Func.isWrapper; first | (rw [if_pos (by decide +kernel)]; kernel_rfl) | (rw [if_neg (by decide +kernel)]; exact ⟨rfl, rfl⟩))
    (fun os started H enc _ => ratTells_lifted os started H enc)
end Go.Proofs.YtpnmoecjhannnaaGreat
