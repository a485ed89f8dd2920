/- At every input the call answers true and leaves its arguments as they were; no conditions. -/
import Derived.Test.YtpnmoecjhannnaaQd
import Derived.Test.YtpnmoecjhannnaaQe
set_option linter.unusedSimpArgs false
set_option linter.unusedVariables false
namespace Go.Proofs.Ytpnmoecjhannnaa
open Go Go.Abs
set_option maxHeartbeats 8000000
theorem whole_iff (p : Int) {q : Int} (hq : q ≠ 0) : (Rat.divInt p q).den = 1 ↔ Int.tmod p q = 0 := by
  rw [Rat.den_divInt, if_neg hq, ← Int.dvd_iff_tmod_eq_zero]
  have hg : q.gcd p ≠ 0 := fun e => hq (Int.gcd_eq_zero_iff.1 e).1
  constructor
  · intro h
    have h1 := Int.gcd_dvd_left q p
    have h2 : q.natAbs = q.gcd p := by
      have h3 : q.gcd p ∣ q.natAbs := by have := Int.natAbs_dvd_natAbs.2 h1; rwa [Int.natAbs_natCast] at this
      obtain ⟨k, hk⟩ := h3
      rw [hk, Nat.mul_div_cancel_left _ (by omega)] at h
      rw [hk, h, Nat.mul_one]
    have h4 := Int.gcd_dvd_right q p
    rw [← h2] at h4
    exact Int.natAbs_dvd.1 h4
  · intro h
    have : q.gcd p = q.natAbs := by
      rw [Int.gcd_eq_natAbs_left_iff_dvd]
      exact h
    rw [this, Nat.div_self (by omega)]
set_option maxRecDepth 100000 in
theorem p_RatShort (p : Int) (hp1 : -2147483648 ≤ p) (hp2 : p < 2147483648) (q : Int) (hq1 : -2147483648 ≤ q) (hq2 : q < 2147483648) (c : Int) (hc1 : -32768 ≤ c) (hc2 : c < 32768) : PCall Try.prog 3 [tI .i32 p, tI .i32 q, tI .i16 c] (tB true) := by
  have hk := known5
  have o1 := i_Of p (by omega) (by omega)
  have o2 := i_Of q (by omega) (by omega)
  have l1 : lN p ≤ 2 := lN_of (by rw [show BB ^ 2 = 1000000000000000000 from rfl]; omega)
  have l2 : lN q ≤ 2 := lN_of (by rw [show BB ^ 2 = 1000000000000000000 from rfl]; omega)
  have b1 : -70368744177664 ≤ p * c ∧ p * c ≤ 70368744177664 := by
    have : (p * c).natAbs ≤ 2147483648 * 32768 := by rw [Int.natAbs_mul]; exact Nat.mul_le_mul (by omega) (by omega)
    omega
  have b2 : -70368744177664 ≤ q * c ∧ q * c ≤ 70368744177664 := by
    have : (q * c).natAbs ≤ 2147483648 * 32768 := by rw [Int.natAbs_mul]; exact Nat.mul_le_mul (by omega) (by omega)
    omega
  have o3 := i_Of (p * c) (by omega) (by omega)
  have o4 := i_Of (q * c) (by omega) (by omega)
  have l3 : lN (p * c) ≤ 2 := lN_of (by rw [show BB ^ 2 = 1000000000000000000 from rfl]; omega)
  have l4 : lN (q * c) ≤ 2 := lN_of (by rw [show BB ^ 2 = 1000000000000000000 from rfl]; omega)
  have wp : IntKind.wrap .i64 p = p := wrap_i64 (by omega) (by omega)
  have wq : IntKind.wrap .i64 q = q := wrap_i64 (by omega) (by omega)
  have wc : IntKind.wrap .i64 c = c := wrap_i64 (by omega) (by omega)
  have w1 : IntKind.wrap .i64 (p * c) = p * c := wrap_i64 (by omega) (by omega)
  have w2 : IntKind.wrap .i64 (q * c) = q * c := wrap_i64 (by omega) (by omega)
  have r1 := q_Of_e p q (by omega) (by omega)
  have r2 := q_Of_e (p * c) (q * c) (by omega) (by omega)
  have r3 := q_Of_0 p (by omega)
  have lA := lQ_divInt p q
  have r4 := q_Is_e (Rat.divInt p q) (by omega)
  have r5 := tB_of (r_EqualRat_e (Rat.divInt p q) (Rat.divInt p q) (by omega) (by omega)) rfl
  have l0 := lQ_zero
  have r6 := r_SignRat_e 0 (by omega)
  rw [show (0 : Rat).num.sign = 0 from rfl] at r6
  have r7 := q_Is_e 0 (by omega)
  have r8 := q_Whole_e (Rat.divInt p q) (by omega)
  by_cases hq : q = 0
  · have e1 : (q = 0) = True := eq_true hq
    refine pcall_of_wpA mixed Try.call3 Try.func3 rfl Try.ntmps3 Try.results3 (by simp) (by decide) ?_
    simp only [go_sem, reduceIte, Nat.reduceEqDiff, Nat.reduceLT, Nat.reduceLeDiff, Nat.reduceAdd, Nat.reduceSub, Nat.reduceMul, Nat.reducePow, Int.reduceNe, Int.reduceLT, Int.reduceLE, Int.reduceEq, Int.reduceToNat, Int.reduceNeg, Int.reduceAdd, Int.reduceSub, reduceCtorEq, not_false_eq_true, not_true_eq_false, ne_eq]
    (repeat (first | (refine regA_by 0 rfl ?_; simp only [go_sem, reduceIte, Nat.reduceEqDiff, Nat.reduceLT, Nat.reduceLeDiff, Nat.reduceAdd, Nat.reduceSub, Nat.reduceMul, Nat.reducePow, Int.reduceNe, Int.reduceLT, Int.reduceLE, Int.reduceEq, Int.reduceToNat, Int.reduceNeg, Int.reduceAdd, Int.reduceSub, reduceCtorEq, not_false_eq_true, not_true_eq_false, ne_eq, e1]) | (refine call_pure (hk) rfl ?_; simp only [go_sem, reduceIte, Nat.reduceEqDiff, Nat.reduceLT, Nat.reduceLeDiff, Nat.reduceAdd, Nat.reduceSub, Nat.reduceMul, Nat.reducePow, Int.reduceNe, Int.reduceLT, Int.reduceLE, Int.reduceEq, Int.reduceToNat, Int.reduceNeg, Int.reduceAdd, Int.reduceSub, reduceCtorEq, not_false_eq_true, not_true_eq_false, ne_eq, e1])))
  · have e1 : (q = 0) = False := eq_false hq
    by_cases hc : c = 0
    · have e2 : (c = 0) = True := eq_true hc
      refine pcall_of_wpA mixed Try.call3 Try.func3 rfl Try.ntmps3 Try.results3 (by simp) (by decide) ?_
      simp only [go_sem, reduceIte, Nat.reduceEqDiff, Nat.reduceLT, Nat.reduceLeDiff, Nat.reduceAdd, Nat.reduceSub, Nat.reduceMul, Nat.reducePow, Int.reduceNe, Int.reduceLT, Int.reduceLE, Int.reduceEq, Int.reduceToNat, Int.reduceNeg, Int.reduceAdd, Int.reduceSub, reduceCtorEq, not_false_eq_true, not_true_eq_false, ne_eq]
      (repeat (first | (refine regA_by 0 rfl ?_; simp only [go_sem, reduceIte, Nat.reduceEqDiff, Nat.reduceLT, Nat.reduceLeDiff, Nat.reduceAdd, Nat.reduceSub, Nat.reduceMul, Nat.reducePow, Int.reduceNe, Int.reduceLT, Int.reduceLE, Int.reduceEq, Int.reduceToNat, Int.reduceNeg, Int.reduceAdd, Int.reduceSub, reduceCtorEq, not_false_eq_true, not_true_eq_false, ne_eq, e1, e2]) | (refine call_pure (hk) rfl ?_; simp only [go_sem, reduceIte, Nat.reduceEqDiff, Nat.reduceLT, Nat.reduceLeDiff, Nat.reduceAdd, Nat.reduceSub, Nat.reduceMul, Nat.reducePow, Int.reduceNe, Int.reduceLT, Int.reduceLE, Int.reduceEq, Int.reduceToNat, Int.reduceNeg, Int.reduceAdd, Int.reduceSub, reduceCtorEq, not_false_eq_true, not_true_eq_false, ne_eq, e1, e2])))
    · have e2 : (c = 0) = False := eq_false hc
      rw [Rat.divInt_mul_right hc] at r2
      have r9 := tB_iff r8 (whole_iff p hq)
      clear r8
      obtain ⟨A, hA⟩ : ∃ A, A = Rat.divInt p q := ⟨_, rfl⟩
      rw [← hA] at r1 r2 r4 r5 r9
      clear hA lA
      obtain ⟨P, hP⟩ : ∃ P, P = p * c := ⟨_, rfl⟩
      obtain ⟨Q, hQ⟩ : ∃ P, P = q * c := ⟨_, rfl⟩
      have w1 : IntKind.wrap .i64 (p * c) = P := by rw [hP]; exact w1
      have w2 : IntKind.wrap .i64 (q * c) = Q := by rw [hQ]; exact w2
      rw [← hP] at o3 r2
      rw [← hQ] at o4 r2
      refine pcall_of_wpA mixed Try.call3 Try.func3 rfl Try.ntmps3 Try.results3 (by simp) (by decide) ?_
      simp only [go_sem, reduceIte, Nat.reduceEqDiff, Nat.reduceLT, Nat.reduceLeDiff, Nat.reduceAdd, Nat.reduceSub, Nat.reduceMul, Nat.reducePow, Int.reduceNe, Int.reduceLT, Int.reduceLE, Int.reduceEq, Int.reduceToNat, Int.reduceNeg, Int.reduceAdd, Int.reduceSub, reduceCtorEq, not_false_eq_true, not_true_eq_false, ne_eq]
      (repeat (first | (refine regA_by 0 rfl ?_; simp only [go_sem, reduceIte, Nat.reduceEqDiff, Nat.reduceLT, Nat.reduceLeDiff, Nat.reduceAdd, Nat.reduceSub, Nat.reduceMul, Nat.reducePow, Int.reduceNe, Int.reduceLT, Int.reduceLE, Int.reduceEq, Int.reduceToNat, Int.reduceNeg, Int.reduceAdd, Int.reduceSub, reduceCtorEq, not_false_eq_true, not_true_eq_false, ne_eq, e1, e2, wp, wq, wc, w1, w2, beq_self_eq_true]) | (refine call_pure (hk) rfl ?_; simp only [go_sem, reduceIte, Nat.reduceEqDiff, Nat.reduceLT, Nat.reduceLeDiff, Nat.reduceAdd, Nat.reduceSub, Nat.reduceMul, Nat.reducePow, Int.reduceNe, Int.reduceLT, Int.reduceLE, Int.reduceEq, Int.reduceToNat, Int.reduceNeg, Int.reduceAdd, Int.reduceSub, reduceCtorEq, not_false_eq_true, not_true_eq_false, ne_eq, e1, e2, wp, wq, wc, w1, w2, beq_self_eq_true]) | (refine call_pure (o1) rfl ?_; simp only [go_sem, reduceIte, Nat.reduceEqDiff, Nat.reduceLT, Nat.reduceLeDiff, Nat.reduceAdd, Nat.reduceSub, Nat.reduceMul, Nat.reducePow, Int.reduceNe, Int.reduceLT, Int.reduceLE, Int.reduceEq, Int.reduceToNat, Int.reduceNeg, Int.reduceAdd, Int.reduceSub, reduceCtorEq, not_false_eq_true, not_true_eq_false, ne_eq, e1, e2, wp, wq, wc, w1, w2, beq_self_eq_true]) | (refine call_pure (o2) rfl ?_; simp only [go_sem, reduceIte, Nat.reduceEqDiff, Nat.reduceLT, Nat.reduceLeDiff, Nat.reduceAdd, Nat.reduceSub, Nat.reduceMul, Nat.reducePow, Int.reduceNe, Int.reduceLT, Int.reduceLE, Int.reduceEq, Int.reduceToNat, Int.reduceNeg, Int.reduceAdd, Int.reduceSub, reduceCtorEq, not_false_eq_true, not_true_eq_false, ne_eq, e1, e2, wp, wq, wc, w1, w2, beq_self_eq_true]) | (refine call_pure (o3) rfl ?_; simp only [go_sem, reduceIte, Nat.reduceEqDiff, Nat.reduceLT, Nat.reduceLeDiff, Nat.reduceAdd, Nat.reduceSub, Nat.reduceMul, Nat.reducePow, Int.reduceNe, Int.reduceLT, Int.reduceLE, Int.reduceEq, Int.reduceToNat, Int.reduceNeg, Int.reduceAdd, Int.reduceSub, reduceCtorEq, not_false_eq_true, not_true_eq_false, ne_eq, e1, e2, wp, wq, wc, w1, w2, beq_self_eq_true]) | (refine call_pure (o4) rfl ?_; simp only [go_sem, reduceIte, Nat.reduceEqDiff, Nat.reduceLT, Nat.reduceLeDiff, Nat.reduceAdd, Nat.reduceSub, Nat.reduceMul, Nat.reducePow, Int.reduceNe, Int.reduceLT, Int.reduceLE, Int.reduceEq, Int.reduceToNat, Int.reduceNeg, Int.reduceAdd, Int.reduceSub, reduceCtorEq, not_false_eq_true, not_true_eq_false, ne_eq, e1, e2, wp, wq, wc, w1, w2, beq_self_eq_true]) | (refine call_pure (r1) rfl ?_; simp only [go_sem, reduceIte, Nat.reduceEqDiff, Nat.reduceLT, Nat.reduceLeDiff, Nat.reduceAdd, Nat.reduceSub, Nat.reduceMul, Nat.reducePow, Int.reduceNe, Int.reduceLT, Int.reduceLE, Int.reduceEq, Int.reduceToNat, Int.reduceNeg, Int.reduceAdd, Int.reduceSub, reduceCtorEq, not_false_eq_true, not_true_eq_false, ne_eq, e1, e2, wp, wq, wc, w1, w2, beq_self_eq_true]) | (refine call_pure (r2) rfl ?_; simp only [go_sem, reduceIte, Nat.reduceEqDiff, Nat.reduceLT, Nat.reduceLeDiff, Nat.reduceAdd, Nat.reduceSub, Nat.reduceMul, Nat.reducePow, Int.reduceNe, Int.reduceLT, Int.reduceLE, Int.reduceEq, Int.reduceToNat, Int.reduceNeg, Int.reduceAdd, Int.reduceSub, reduceCtorEq, not_false_eq_true, not_true_eq_false, ne_eq, e1, e2, wp, wq, wc, w1, w2, beq_self_eq_true]) | (refine call_pure (r3) rfl ?_; simp only [go_sem, reduceIte, Nat.reduceEqDiff, Nat.reduceLT, Nat.reduceLeDiff, Nat.reduceAdd, Nat.reduceSub, Nat.reduceMul, Nat.reducePow, Int.reduceNe, Int.reduceLT, Int.reduceLE, Int.reduceEq, Int.reduceToNat, Int.reduceNeg, Int.reduceAdd, Int.reduceSub, reduceCtorEq, not_false_eq_true, not_true_eq_false, ne_eq, e1, e2, wp, wq, wc, w1, w2, beq_self_eq_true]) | (refine call_pure (r4) rfl ?_; simp only [go_sem, reduceIte, Nat.reduceEqDiff, Nat.reduceLT, Nat.reduceLeDiff, Nat.reduceAdd, Nat.reduceSub, Nat.reduceMul, Nat.reducePow, Int.reduceNe, Int.reduceLT, Int.reduceLE, Int.reduceEq, Int.reduceToNat, Int.reduceNeg, Int.reduceAdd, Int.reduceSub, reduceCtorEq, not_false_eq_true, not_true_eq_false, ne_eq, e1, e2, wp, wq, wc, w1, w2, beq_self_eq_true]) | (refine call_pure (r5) rfl ?_; simp only [go_sem, reduceIte, Nat.reduceEqDiff, Nat.reduceLT, Nat.reduceLeDiff, Nat.reduceAdd, Nat.reduceSub, Nat.reduceMul, Nat.reducePow, Int.reduceNe, Int.reduceLT, Int.reduceLE, Int.reduceEq, Int.reduceToNat, Int.reduceNeg, Int.reduceAdd, Int.reduceSub, reduceCtorEq, not_false_eq_true, not_true_eq_false, ne_eq, e1, e2, wp, wq, wc, w1, w2, beq_self_eq_true]) | (refine call_pure (r6) rfl ?_; simp only [go_sem, reduceIte, Nat.reduceEqDiff, Nat.reduceLT, Nat.reduceLeDiff, Nat.reduceAdd, Nat.reduceSub, Nat.reduceMul, Nat.reducePow, Int.reduceNe, Int.reduceLT, Int.reduceLE, Int.reduceEq, Int.reduceToNat, Int.reduceNeg, Int.reduceAdd, Int.reduceSub, reduceCtorEq, not_false_eq_true, not_true_eq_false, ne_eq, e1, e2, wp, wq, wc, w1, w2, beq_self_eq_true]) | (refine call_pure (r7) rfl ?_; simp only [go_sem, reduceIte, Nat.reduceEqDiff, Nat.reduceLT, Nat.reduceLeDiff, Nat.reduceAdd, Nat.reduceSub, Nat.reduceMul, Nat.reducePow, Int.reduceNe, Int.reduceLT, Int.reduceLE, Int.reduceEq, Int.reduceToNat, Int.reduceNeg, Int.reduceAdd, Int.reduceSub, reduceCtorEq, not_false_eq_true, not_true_eq_false, ne_eq, e1, e2, wp, wq, wc, w1, w2, beq_self_eq_true]) | (refine call_pure (r9) rfl ?_; simp only [go_sem, reduceIte, Nat.reduceEqDiff, Nat.reduceLT, Nat.reduceLeDiff, Nat.reduceAdd, Nat.reduceSub, Nat.reduceMul, Nat.reducePow, Int.reduceNe, Int.reduceLT, Int.reduceLE, Int.reduceEq, Int.reduceToNat, Int.reduceNeg, Int.reduceAdd, Int.reduceSub, reduceCtorEq, not_false_eq_true, not_true_eq_false, ne_eq, e1, e2, wp, wq, wc, w1, w2, beq_self_eq_true])))
end Go.Proofs.Ytpnmoecjhannnaa
namespace Go.Proofs.Ytpnmoecjhannnaa
open Go Go.Abs Go.ChangeShapes Go.WideShapes Go.ChangeAt Go.RowKit
set_option maxRecDepth 100000
theorem ratShort_lifted (os : Os) (started : os.Started) (H : Type) (enc : TypeId × Value → H) :
    ReturnsInHanded {} Try.checked os 3 .any (Rows.ratShortSpec.pre6 enc Try.prog Try.f3 Rows.ratShortRow.domain false) (Rows.ratShortSpec.post enc Try.prog Try.f3 false true false false) := by
  refine returnsInHanded_of_change (C := Try.checked) Try.ownK started (by kernel_rfl) Try.func3
    (ChangeSpec.witness6 (enc := enc) (C := Try.checked) false ⟨#[], #[.int .i32 0, .int .i32 0, .int .i16 0], []⟩ 8 (by kernel_rfl) (by kernel_rfl) (by kernel_rfl) (by kernel_rfl)) ?_
  intro W base args ds gs before hval hW _ _
  refine row_of_pcall (S := plainS) (tb := 4) plain_ok Try.laidOut (by intro t ht; revert t; decide +kernel) rfl Try.underlying4 rfl (fun ds h => ?_) (fun tvs h => ?_) hval hW
  · match ds, h with
    | [d0, d1, d2], _ => rfl
  · obtain ⟨x0, _, rfl, h0, h⟩ := wtvs_cons h
    obtain ⟨x1, _, rfl, h1, h⟩ := wtvs_cons h
    obtain ⟨x2, _, rfl, h2, h⟩ := wtvs_cons h
    obtain rfl := wtvs_nil h
    obtain ⟨n0, rfl, k0⟩ := wtv_int Try.underlying21 h0
    have k0 := wf_i32 k0
    obtain ⟨n1, rfl, k1⟩ := wtv_int Try.underlying21 h1
    have k1 := wf_i32 k1
    obtain ⟨n2, rfl, k2⟩ := wtv_int Try.underlying22 h2
    have k2 := wf_i16 k2
    exact p_RatShort n0 k0.1 k0.2 n1 k1.1 k1.2 n2 k2.1 k2.2

theorem ratShort_holds : Rows.RatShortSaid :=
  OpenClaim.holds_of_wide 3 Try.f3 rfl rfl rfl rfl rfl rfl rfl ⟨rfl, rfl, rfl, rfl, rfl⟩ rfl rfl rfl rfl rfl (by kernel_rfl) Try.func3 (by kernel_rfl)
    (of_decide_eq_true (by kernel_rfl)) (by unfold Func.isWrapper; first | (rw [if_pos (by decide +kernel)]; kernel_rfl) | (rw [if_neg (by decide +kernel)]; exact ⟨rfl, rfl⟩))
    (fun os started H enc _ => ratShort_lifted os started H enc)
end Go.Proofs.Ytpnmoecjhannnaa
