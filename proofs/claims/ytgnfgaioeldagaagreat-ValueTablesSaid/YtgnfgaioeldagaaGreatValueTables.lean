/- At every input the call answers true and leaves its arguments as they were; no conditions. -/
import Derived.Test.YtgnfgaioeldagaaGreatValueTablesW
import Derived.Test.YtgnfgaioeldagaaGreatQv
import Derived.Test.YtgnfgaioeldagaaGreatSd
import Derived.Test.YtgnfgaioeldagaaGreatXb
set_option linter.unusedSimpArgs false
set_option linter.unusedVariables false
namespace Go.Proofs.YtgnfgaioeldagaaGreat
open Go Go.Abs Go.ChangeShapes Go.WideShapes Go.ChangeAt Go.RowKit
set_option maxRecDepth 100000
theorem valueTables_lifted (os : Os) (started : os.Started) (H : Type) (enc : TypeId × Value → H) :
    ReturnsInHanded {} Tryz.checked os 7 .any (Rows.valueTablesSpec.pre6 enc Tryz.prog Tryz.f7 Rows.valueTablesRow.domain false) (Rows.valueTablesSpec.post enc Tryz.prog Tryz.f7 false true false false) := by
  refine returnsInHanded_of_change (C := Tryz.checked) Tryz.ownK started (by kernel_rfl) Tryz.func7
    (ChangeSpec.witness6 (enc := enc) (C := Tryz.checked) false ⟨#[], #[.slice none 0 0, .int .u8 0, .int .i64 0], []⟩ 8 (by kernel_rfl) (by kernel_rfl) (by kernel_rfl) (by kernel_rfl)) ?_
  intro W base args ds gs before hval hW _ _
  refine row_of_pcall (S := plainSV) (tb := 4) plainV_ok Tryz.laidOut (by intro t ht; revert t; decide +kernel) rfl Tryz.underlying4 rfl (fun ds h => ?_) (fun tvs h => ?_) hval hW
  · match ds, h with
    | [d0, d1, d2], _ => rfl
  · obtain ⟨x0, _, rfl, h0, h⟩ := wtvs_cons h
    obtain ⟨x1, _, rfl, h1, h⟩ := wtvs_cons h
    obtain ⟨x2, _, rfl, h2, h⟩ := wtvs_cons h
    obtain rfl := wtvs_nil h
    obtain ⟨l0, rfl, j0, k0⟩ := wtv_u8s h0
    obtain ⟨n1, rfl, k1⟩ := wtv_int Tryz.underlying5 h1
    have k1 := wf_u8 k1
    obtain ⟨n2, rfl, k2⟩ := wtv_int Tryz.underlying2 h2
    have k2 := wf_i64 k2
    exact p_ValueTables smallSpec idxSpec cmpSpec l0 j0 k0 n1 k1.1 k1.2 n2 k2.1 k2.2

theorem valueTables_holds : Rows.ValueTablesSaid :=
  OpenClaim.holds_of_wide 7 Tryz.f7 rfl rfl rfl rfl rfl rfl rfl ⟨rfl, rfl, rfl, rfl, rfl⟩ rfl rfl rfl rfl rfl (by kernel_rfl) Tryz.func7 (by kernel_rfl)
    (of_decide_eq_true (by kernel_rfl)) (by unfold Func.isWrapper; first | (rw [if_pos (by decide +kernel)]; kernel_rfl) | (rw [if_neg (by decide +kernel)]; exact ⟨rfl, rfl⟩))
    (fun os started H enc _ => valueTables_lifted os started H enc)
end Go.Proofs.YtgnfgaioeldagaaGreat
