/- At every input the call answers true and leaves its arguments as they were; no conditions. -/
import Derived.Test.YtpnmoecjhannnaaLinValuesW
import Derived.Test.YtpnmoecjhannnaaQe
set_option linter.unusedSimpArgs false
set_option linter.unusedVariables false
namespace Go.Proofs.Ytpnmoecjhannnaa
open Go Go.Abs Go.ChangeShapes Go.WideShapes Go.ChangeAt Go.RowKit
set_option maxRecDepth 100000
theorem linValues_lifted (os : Os) (started : os.Started) (H : Type) (enc : TypeId × Value → H) :
    ReturnsInHanded {} Try.checked os 7 .any (Rows.linValuesSpec.pre6 enc Try.prog Try.f7 Rows.linValuesRow.domain false) (Rows.linValuesSpec.post enc Try.prog Try.f7 false true false false) := by
  refine returnsInHanded_of_change (C := Try.checked) Try.ownK started (by kernel_rfl) Try.func7
    (ChangeSpec.witness6 (enc := enc) (C := Try.checked) false ⟨#[], #[.agg #[.slice none 0 0, .bool false, .slice none 0 0], .agg #[.slice none 0 0, .bool false, .slice none 0 0], .agg #[.bool false, .slice none 0 0], .int .u8 0, .slice none 0 0], []⟩ 8 (by kernel_rfl) (by kernel_rfl) (by kernel_rfl) (by kernel_rfl)) ?_
  intro W base args ds gs before hval hW _ _
  refine row_of_pcall (S := plainS) (tb := 4) plain_ok Try.laidOut (by intro t ht; revert t; decide +kernel) rfl Try.underlying4 rfl (fun ds h => ?_) (fun tvs h => ?_) hval hW
  · match ds, h with
    | [d0, d1, d2, d3, d4], _ => rfl
  · obtain ⟨x0, _, rfl, h0, h⟩ := wtvs_cons h
    obtain ⟨x1, _, rfl, h1, h⟩ := wtvs_cons h
    obtain ⟨x2, _, rfl, h2, h⟩ := wtvs_cons h
    obtain ⟨x3, _, rfl, h3, h⟩ := wtvs_cons h
    obtain ⟨x4, _, rfl, h4, h⟩ := wtvs_cons h
    obtain rfl := wtvs_nil h
    obtain ⟨l0, rfl, k0⟩ := wtv_Lin h0
    obtain ⟨l1, rfl, k1⟩ := wtv_Lin h1
    obtain ⟨s2, a2, rfl, _⟩ := wtv_Int h2
    obtain ⟨n3, rfl, k3⟩ := wtv_int Try.underlying5 h3
    have k3 := wf_u8 k3
    obtain ⟨l4, rfl, j4⟩ := wtv_Ints h4
    exact p_LinValues l0 k0 l1 k1 s2 a2 n3 k3.1 k3.2 l4 j4

theorem linValues_holds : Rows.LinValuesSaid :=
  OpenClaim.holds_of_wide 7 Try.f7 rfl rfl rfl rfl rfl rfl rfl ⟨rfl, rfl, rfl, rfl, rfl⟩ rfl rfl rfl rfl rfl (by kernel_rfl) Try.func7 (by kernel_rfl)
    (of_decide_eq_true (by kernel_rfl)) (by unfold Func.isWrapper; first | (rw [if_pos (by decide +kernel)]; kernel_rfl) | (rw [if_neg (by decide +kernel)]; exact ⟨rfl, rfl⟩))
    (fun os started H enc _ => linValues_lifted os started H enc)
end Go.Proofs.Ytpnmoecjhannnaa
