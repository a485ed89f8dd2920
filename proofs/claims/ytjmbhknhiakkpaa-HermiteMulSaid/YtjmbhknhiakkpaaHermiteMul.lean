/- At every input the call answers true and leaves its arguments as they were; no conditions. -/
import Derived.Test.YtjmbhknhiakkpaaUd
import Derived.Test.YtjmbhknhiakkpaaQz
set_option linter.unusedSimpArgs false
set_option linter.unusedVariables false
namespace Go.Proofs.Ytjmbhknhiakkpaa
open Go Go.Abs
set_option maxHeartbeats 32000000
theorem p_HermiteMul (a : List (List RI)) (ja : a.length ≤ 9223372036854775807) (ka : ∀ r ∈ a, r.length ≤ 9223372036854775807 ∧ ∀ p ∈ r, p.2.length ≤ 9223372036854775807) (b : List (List RI)) (jb : b.length ≤ 9223372036854775807) (kb : ∀ r ∈ b, r.length ≤ 9223372036854775807 ∧ ∀ p ∈ r, p.2.length ≤ 9223372036854775807) :
    PCall Try.prog 5 [.one (eW a), .one (eW b)] (tB true) := by
  have hk := known20
  have q1 := few20 a ja ka
  have q2 := few20 b jb kb
  refine pcall_of_wpA mixed Try.call5 Try.func5 rfl Try.ntmps5 Try.results5 (by simp) (by decide) ?_
  by_cases c1 : FW a
  · have q1 := tB_of q1 c1
    by_cases c2 : FW b
    · have q2 := tB_of q2 c2
      have la := c1.LR
      have lb := c2.LR
      have h1 := c1.2
      have h2 := c2.2
      obtain ⟨n, hn⟩ : ∃ n, n = widR b := ⟨_, rfl⟩
      have hn8 : n ≤ 8 := by
        rw [hn]; unfold widR
        cases b with
        | nil => exact Nat.zero_le _
        | cons r b => exact (c2.1 r (List.mem_cons_self ..)).1
      have o1 := h_Mul a b (L := 2) (by decide) la lb (by omega) (by omega)
      have o2 := r_Mul a b b.length n (L := 2) (by decide) la lb (by omega) (by omega) (by omega) (by omega)
      rw [← hn, rawM_congr fun i j hi _ => prW_in hi (Nat.le_refl _)] at o1
      have hL := LR_sum (R := a.length) (n := n) (m := b.length) (M := 20) la lb (by omega) (by omega)
      have o3 := tB_of (h_Equal _ _ (L := 20) (by decide) hL hL (by rw [rawM_len]; omega) (by rw [rawM_len]; omega)) rfl
      generalize rawM a.length n _ = p at *
      simp only [go_sem]
      ((repeat (refine regA_by 0 rfl ?_; simp only [go_sem])); refine call_pure (hk) rfl ?_; simp only [go_sem]; (repeat (refine regA_by 0 rfl ?_; simp only [go_sem])); refine call_pure (q1) rfl ?_; simp only [go_sem]; (repeat (refine regA_by 0 rfl ?_; simp only [go_sem])); refine call_pure (q2) rfl ?_; simp only [go_sem]; (repeat (refine regA_by 0 rfl ?_; simp only [go_sem])))
      refine CondR_if (fun hlt => ?_) (fun hge => ?_)
      · have hb0 : 0 < b.length := by omega
        have e2 : elemD cMw b 0 = cMw b[0] := elemD_lt hb0
        have hw : b[0].length = n := by rw [hn]; unfold widR; cases b with | nil => simp at hb0 | cons _ _ => rfl
        have hI2 : ((0 : Int) < (b.length : Int)) = True := eq_true (by omega)
        simp only [go_sem, e2, hI2, hw]
        (repeat (refine And.intro (by omega) ?_))
        ((repeat (refine regA_by 0 rfl ?_; simp only [go_sem, e2, hI2, hw])); refine call_pure (o1) rfl ?_; simp only [go_sem, e2, hI2, hw]; (repeat (refine regA_by 0 rfl ?_; simp only [go_sem, e2, hI2, hw])); refine call_pure (o2) rfl ?_; simp only [go_sem, e2, hI2, hw]; (repeat (refine regA_by 0 rfl ?_; simp only [go_sem, e2, hI2, hw])); refine call_pure (o3) rfl ?_; simp only [go_sem, e2, hI2, hw]; (repeat (refine regA_by 0 rfl ?_; simp only [go_sem, e2, hI2, hw])))
      · have hw : n = 0 := by rw [hn]; unfold widR; cases b with | nil => rfl | cons _ _ => simp at hge
        simp only [go_sem]
        rw [show (0 : Int) = ((n : Nat) : Int) by rw [hw]; rfl]
        ((repeat (refine regA_by 0 rfl ?_; simp only [go_sem])); refine call_pure (o1) rfl ?_; simp only [go_sem]; (repeat (refine regA_by 0 rfl ?_; simp only [go_sem])); refine call_pure (o2) rfl ?_; simp only [go_sem]; (repeat (refine regA_by 0 rfl ?_; simp only [go_sem])); refine call_pure (o3) rfl ?_; simp only [go_sem]; (repeat (refine regA_by 0 rfl ?_; simp only [go_sem])))
    · have q2 := tB_not q2 c2
      simp only [go_sem]
      ((repeat (refine regA_by 0 rfl ?_; simp only [go_sem])); refine call_pure (hk) rfl ?_; simp only [go_sem]; (repeat (refine regA_by 0 rfl ?_; simp only [go_sem])); refine call_pure (q1) rfl ?_; simp only [go_sem]; (repeat (refine regA_by 0 rfl ?_; simp only [go_sem])); refine call_pure (q2) rfl ?_; simp only [go_sem]; (repeat (refine regA_by 0 rfl ?_; simp only [go_sem])))
  · have q1 := tB_not q1 c1
    simp only [go_sem]
    ((repeat (refine regA_by 0 rfl ?_; simp only [go_sem])); refine call_pure (hk) rfl ?_; simp only [go_sem]; (repeat (refine regA_by 0 rfl ?_; simp only [go_sem])); refine call_pure (q1) rfl ?_; simp only [go_sem]; (repeat (refine regA_by 0 rfl ?_; simp only [go_sem])))
end Go.Proofs.Ytjmbhknhiakkpaa
namespace Go.Proofs.Ytjmbhknhiakkpaa
open Go Go.Abs Go.ChangeShapes Go.WideShapes Go.ChangeAt Go.RowKit
set_option maxRecDepth 100000
theorem hermiteMul_lifted (os : Os) (started : os.Started) (H : Type) (enc : TypeId × Value → H) :
    ReturnsInHanded {} Try.checked os 5 .any (Rows.hermiteMulSpec.pre6 enc Try.prog Try.f5 Rows.hermiteMulRow.domain false) (Rows.hermiteMulSpec.post enc Try.prog Try.f5 false true false false) := by
  refine returnsInHanded_of_change (C := Try.checked) Try.ownK started (by kernel_rfl) Try.func5
    (ChangeSpec.witness6 (enc := enc) (C := Try.checked) false ⟨#[], #[.slice none 0 0, .slice none 0 0], []⟩ 8 (by kernel_rfl) (by kernel_rfl) (by kernel_rfl) (by kernel_rfl)) ?_
  intro W base args ds gs before hval hW _ _
  refine row_of_pcall (S := plainS) (tb := 4) plain_ok Try.laidOut (by intro t ht; revert t; decide +kernel) rfl Try.underlying4 rfl (fun ds h => ?_) (fun tvs h => ?_) hval hW
  · match ds, h with
    | [d0, d1], _ => rfl
  · obtain ⟨x0, _, rfl, h0, h⟩ := wtvs_cons h
    obtain ⟨x1, _, rfl, h1, h⟩ := wtvs_cons h
    obtain rfl := wtvs_nil h
    obtain ⟨l0, rfl, j0, k0⟩ := wtv_Mat h0
    obtain ⟨l1, rfl, j1, k1⟩ := wtv_Mat h1
    exact p_HermiteMul l0 j0 k0 l1 j1 k1

theorem hermiteMul_holds : Rows.HermiteMulSaid :=
  OpenClaim.holds_of_wide 5 Try.f5 rfl rfl rfl rfl rfl rfl rfl ⟨rfl, rfl, rfl, rfl, rfl⟩ rfl rfl rfl rfl rfl (by kernel_rfl) Try.func5 (by kernel_rfl)
    (of_decide_eq_true (by kernel_rfl)) (by unfold Func.isWrapper; first | (rw [if_pos (by decide +kernel)]; kernel_rfl) | (rw [if_neg (by decide +kernel)]; exact ⟨rfl, rfl⟩))
    (fun os started H enc _ => hermiteMul_lifted os started H enc)
end Go.Proofs.Ytjmbhknhiakkpaa
