/- At every input the call answers true and leaves its arguments as they were; no conditions. -/
import Derived.Test.YtohpbppplfdieaaLc
set_option linter.unusedSimpArgs false
set_option linter.unusedVariables false
namespace Go.Proofs.Ytohpbppplfdieaa
open Go Go.Abs
set_option maxHeartbeats 8000000
theorem cmpI_sign2 (x y : Int) : cmpI x y = (x - y).sign := by
  rcases Int.lt_trichotomy x y with h | h | h
  · rw [cmpI_lt h, Int.sign_eq_neg_one_of_neg (by omega)]
  · rw [cmpI_eq h, h, Int.sub_self]; rfl
  · rw [cmpI_gt h, Int.sign_eq_one_of_pos (by omega)]
set_option maxRecDepth 100000 in
theorem l2_sign (n : Int) : PCall Try.prog 47 [tI .i64 n] (tI .i64 n.sign) := by
  refine pcall_of_wpA mixed Try.call47 Try.func47 rfl Try.ntmps47 Try.results47 (by simp) (by decide) ?_
  have h := sign3 n
  generalize n.sign = z at *
  by_cases h1 : n < 0
  · have e : z = -1 := by omega
    simp only [go_sem, reduceIte, Nat.reduceEqDiff, Nat.reduceLT, Nat.reduceLeDiff, Nat.reduceAdd, Nat.reduceSub, Nat.reduceMul, Nat.reducePow, Int.reduceNe, Int.reduceLT, Int.reduceLE, Int.reduceEq, Int.reduceToNat, Int.reduceNeg, Int.reduceAdd, Int.reduceSub, reduceCtorEq, not_false_eq_true, not_true_eq_false, ne_eq, h1, e]
  · by_cases h2 : 0 < n
    · have e : z = 1 := by omega
      simp only [go_sem, reduceIte, Nat.reduceEqDiff, Nat.reduceLT, Nat.reduceLeDiff, Nat.reduceAdd, Nat.reduceSub, Nat.reduceMul, Nat.reducePow, Int.reduceNe, Int.reduceLT, Int.reduceLE, Int.reduceEq, Int.reduceToNat, Int.reduceNeg, Int.reduceAdd, Int.reduceSub, reduceCtorEq, not_false_eq_true, not_true_eq_false, ne_eq, h1, h2, e]
    · have e : z = 0 := by omega
      simp only [go_sem, reduceIte, Nat.reduceEqDiff, Nat.reduceLT, Nat.reduceLeDiff, Nat.reduceAdd, Nat.reduceSub, Nat.reduceMul, Nat.reducePow, Int.reduceNe, Int.reduceLT, Int.reduceLE, Int.reduceEq, Int.reduceToNat, Int.reduceNeg, Int.reduceAdd, Int.reduceSub, reduceCtorEq, not_false_eq_true, not_true_eq_false, ne_eq, h1, h2, e]
theorem rest_eq {x y : Int} (hy : y ≠ 0) (hx1 : -2147483648 ≤ x) (hx2 : x < 2147483648) (hy1 : -2147483648 ≤ y) (hy2 : y < 2147483648) : (IntKind.i64.wrap (x.tmod y + (y.natAbs : Int))).tmod (y.natAbs : Int) = x % y := by
  have h1 := Int.emod_nonneg x hy
  have h2 := emod_lt' x hy
  rw [Int.tmod_eq_emod (a := x) (b := y)]
  split
  · rw [Int.natCast_zero, Int.sub_zero, wrap_i64 (by omega) (by omega), Int.tmod_eq_emod_of_nonneg (by omega), Int.add_emod_right, Int.emod_eq_of_lt h1 h2]
  · rw [Int.sub_add_cancel, wrap_i64 (by omega) (by omega), Int.tmod_eq_emod_of_nonneg h1, Int.emod_eq_of_lt h1 h2]
theorem quo_eq {x y : Int} (hy : y ≠ 0) : (x - x % y).tdiv y = x / y := by
  have h := Int.mul_ediv_add_emod x y
  rw [show x - x % y = y * (x / y) by omega, Int.mul_tdiv_cancel_left _ hy]
theorem lN_i64 {z : Int} (h1 : -9223372036854775808 ≤ z) (h2 : z < 9223372036854775808) : lN z ≤ 3 := lN_of (by rw [show BB ^ 3 = 1000000000000000000000000000 from rfl]; omega)

set_option maxRecDepth 100000 in
theorem p_WholeSmall (hS : SmallSpec) (x : Int) (hx1 : -2147483648 ≤ x) (hx2 : x < 2147483648) (y : Int) (hy1 : -2147483648 ≤ y) (hy2 : y < 2147483648) : PCall Try.prog 11 [tI .i32 x, tI .i32 y] (tB true) := by
  have hk := known2 hS
  have lx := lN_i64 (z := x) (by omega) (by omega)
  have ly := lN_i64 (z := y) (by omega) (by omega)
  have o1 := w_Of_e x (by omega) (by omega)
  have o2 := w_Of_e y (by omega) (by omega)
  have hxy : -4611686018427387904 ≤ x * y ∧ x * y ≤ 4611686018427387904 := by
    have : (x * y).natAbs ≤ 2147483648 * 2147483648 := by rw [Int.natAbs_mul]; exact Nat.mul_le_mul (by omega) (by omega)
    omega
  have wx : IntKind.wrap .i64 x = x := wrap_i64 (by omega) (by omega)
  have wy : IntKind.wrap .i64 y = y := wrap_i64 (by omega) (by omega)
  have m1 := w_Mul_e x y (by omega) (by omega)
  obtain ⟨M, hM⟩ : ∃ M : Int, M = x * y := ⟨_, rfl⟩
  have wM : IntKind.wrap .i64 (x * y) = M := by rw [wrap_i64 (by omega) (by omega), hM]
  rw [← hM] at m1 hxy
  have lM := lN_i64 (z := M) (by omega) (by omega)
  have sM := w_Small_e hS M (by omega) (by omega) (by omega)
  have m2 := w_Sub_e x y (by omega) (by omega)
  have cc := w_Cmp_e x y (by omega) (by omega)
  rw [cmpI_sign2] at cc
  have sg := l2_sign (x - y)
  obtain ⟨D, hD⟩ : ∃ D : Int, D = x - y := ⟨_, rfl⟩
  have wD : IntKind.wrap .i64 (x - y) = D := by rw [wrap_i64 (by omega) (by omega), hD]
  rw [← hD] at m2 cc sg
  have lD := lN_i64 (z := D) (by omega) (by omega)
  have sD := w_Small_e hS D (by omega) (by omega) (by omega)
  generalize D.sign = zD at *
  refine pcall_of_wpA mixed Try.call11 Try.func11 rfl Try.ntmps11 Try.results11 (by simp) (by decide) ?_
  by_cases hy : y = 0
  · have hyt : (y = 0) = True := eq_true hy
    simp only [go_sem, reduceIte, Nat.reduceEqDiff, Nat.reduceLT, Nat.reduceLeDiff, Nat.reduceAdd, Nat.reduceSub, Nat.reduceMul, Nat.reducePow, Int.reduceNe, Int.reduceLT, Int.reduceLE, Int.reduceEq, Int.reduceToNat, Int.reduceNeg, Int.reduceAdd, Int.reduceSub, reduceCtorEq, not_false_eq_true, not_true_eq_false, ne_eq, wx, wy]
    (repeat (first | (refine regA_by 0 rfl ?_; simp only [go_sem, reduceIte, Nat.reduceEqDiff, Nat.reduceLT, Nat.reduceLeDiff, Nat.reduceAdd, Nat.reduceSub, Nat.reduceMul, Nat.reducePow, Int.reduceNe, Int.reduceLT, Int.reduceLE, Int.reduceEq, Int.reduceToNat, Int.reduceNeg, Int.reduceAdd, Int.reduceSub, reduceCtorEq, not_false_eq_true, not_true_eq_false, ne_eq, wx, wy, wM, wD, hyt]) | (refine call_pure (hk) rfl ?_; simp only [go_sem, reduceIte, Nat.reduceEqDiff, Nat.reduceLT, Nat.reduceLeDiff, Nat.reduceAdd, Nat.reduceSub, Nat.reduceMul, Nat.reducePow, Int.reduceNe, Int.reduceLT, Int.reduceLE, Int.reduceEq, Int.reduceToNat, Int.reduceNeg, Int.reduceAdd, Int.reduceSub, reduceCtorEq, not_false_eq_true, not_true_eq_false, ne_eq, wx, wy, wM, wD, hyt]) | (refine call_pure (o1) rfl ?_; simp only [go_sem, reduceIte, Nat.reduceEqDiff, Nat.reduceLT, Nat.reduceLeDiff, Nat.reduceAdd, Nat.reduceSub, Nat.reduceMul, Nat.reducePow, Int.reduceNe, Int.reduceLT, Int.reduceLE, Int.reduceEq, Int.reduceToNat, Int.reduceNeg, Int.reduceAdd, Int.reduceSub, reduceCtorEq, not_false_eq_true, not_true_eq_false, ne_eq, wx, wy, wM, wD, hyt]) | (refine call_pure (o2) rfl ?_; simp only [go_sem, reduceIte, Nat.reduceEqDiff, Nat.reduceLT, Nat.reduceLeDiff, Nat.reduceAdd, Nat.reduceSub, Nat.reduceMul, Nat.reducePow, Int.reduceNe, Int.reduceLT, Int.reduceLE, Int.reduceEq, Int.reduceToNat, Int.reduceNeg, Int.reduceAdd, Int.reduceSub, reduceCtorEq, not_false_eq_true, not_true_eq_false, ne_eq, wx, wy, wM, wD, hyt]) | (refine call_pure (m1) rfl ?_; simp only [go_sem, reduceIte, Nat.reduceEqDiff, Nat.reduceLT, Nat.reduceLeDiff, Nat.reduceAdd, Nat.reduceSub, Nat.reduceMul, Nat.reducePow, Int.reduceNe, Int.reduceLT, Int.reduceLE, Int.reduceEq, Int.reduceToNat, Int.reduceNeg, Int.reduceAdd, Int.reduceSub, reduceCtorEq, not_false_eq_true, not_true_eq_false, ne_eq, wx, wy, wM, wD, hyt]) | (refine call_pure (sM) rfl ?_; simp only [go_sem, reduceIte, Nat.reduceEqDiff, Nat.reduceLT, Nat.reduceLeDiff, Nat.reduceAdd, Nat.reduceSub, Nat.reduceMul, Nat.reducePow, Int.reduceNe, Int.reduceLT, Int.reduceLE, Int.reduceEq, Int.reduceToNat, Int.reduceNeg, Int.reduceAdd, Int.reduceSub, reduceCtorEq, not_false_eq_true, not_true_eq_false, ne_eq, wx, wy, wM, wD, hyt]) | (refine call_pure (m2) rfl ?_; simp only [go_sem, reduceIte, Nat.reduceEqDiff, Nat.reduceLT, Nat.reduceLeDiff, Nat.reduceAdd, Nat.reduceSub, Nat.reduceMul, Nat.reducePow, Int.reduceNe, Int.reduceLT, Int.reduceLE, Int.reduceEq, Int.reduceToNat, Int.reduceNeg, Int.reduceAdd, Int.reduceSub, reduceCtorEq, not_false_eq_true, not_true_eq_false, ne_eq, wx, wy, wM, wD, hyt]) | (refine call_pure (sD) rfl ?_; simp only [go_sem, reduceIte, Nat.reduceEqDiff, Nat.reduceLT, Nat.reduceLeDiff, Nat.reduceAdd, Nat.reduceSub, Nat.reduceMul, Nat.reducePow, Int.reduceNe, Int.reduceLT, Int.reduceLE, Int.reduceEq, Int.reduceToNat, Int.reduceNeg, Int.reduceAdd, Int.reduceSub, reduceCtorEq, not_false_eq_true, not_true_eq_false, ne_eq, wx, wy, wM, wD, hyt]) | (refine call_pure (cc) rfl ?_; simp only [go_sem, reduceIte, Nat.reduceEqDiff, Nat.reduceLT, Nat.reduceLeDiff, Nat.reduceAdd, Nat.reduceSub, Nat.reduceMul, Nat.reducePow, Int.reduceNe, Int.reduceLT, Int.reduceLE, Int.reduceEq, Int.reduceToNat, Int.reduceNeg, Int.reduceAdd, Int.reduceSub, reduceCtorEq, not_false_eq_true, not_true_eq_false, ne_eq, wx, wy, wM, wD, hyt]) | (refine call_pure (sg) rfl ?_; simp only [go_sem, reduceIte, Nat.reduceEqDiff, Nat.reduceLT, Nat.reduceLeDiff, Nat.reduceAdd, Nat.reduceSub, Nat.reduceMul, Nat.reducePow, Int.reduceNe, Int.reduceLT, Int.reduceLE, Int.reduceEq, Int.reduceToNat, Int.reduceNeg, Int.reduceAdd, Int.reduceSub, reduceCtorEq, not_false_eq_true, not_true_eq_false, ne_eq, wx, wy, wM, wD, hyt])))
  · have eu := w_Euclid_e x y (by omega) (by omega)
    have hq := Int.natAbs_ediv_le_natAbs x y
    have hr1 := Int.emod_nonneg x hy
    have hr2 := emod_lt' x hy
    have lQ := lN_ediv x y
    have lR := lN_emod x y
    have sQ := w_Small_e hS (x / y) (by omega) (by omega) (by omega)
    have sR := w_Small_e hS (x % y) (by omega) (by omega) (by omega)
    have hN : (if IntKind.i64.wrap (0 - y) > y then IntKind.i64.wrap (0 - y) else y) = (y.natAbs : Int) := by
      rw [wrap_i64 (n := 0 - y) (by omega) (by omega)]; split <;> omega
    have hrest : (IntKind.i64.wrap (x.tmod y + (y.natAbs : Int))).tmod (y.natAbs : Int) = x % y := rest_eq hy hx1 hx2 hy1 hy2
    simp only [go_sem, reduceIte, Nat.reduceEqDiff, Nat.reduceLT, Nat.reduceLeDiff, Nat.reduceAdd, Nat.reduceSub, Nat.reduceMul, Nat.reducePow, Int.reduceNe, Int.reduceLT, Int.reduceLE, Int.reduceEq, Int.reduceToNat, Int.reduceNeg, Int.reduceAdd, Int.reduceSub, reduceCtorEq, not_false_eq_true, not_true_eq_false, ne_eq, wx, wy]
    (repeat (first | (refine regA_by 0 rfl ?_; simp only [go_sem, reduceIte, Nat.reduceEqDiff, Nat.reduceLT, Nat.reduceLeDiff, Nat.reduceAdd, Nat.reduceSub, Nat.reduceMul, Nat.reducePow, Int.reduceNe, Int.reduceLT, Int.reduceLE, Int.reduceEq, Int.reduceToNat, Int.reduceNeg, Int.reduceAdd, Int.reduceSub, reduceCtorEq, not_false_eq_true, not_true_eq_false, ne_eq, wx, wy, wM, wD, hy]) | (refine call_pure (hk) rfl ?_; simp only [go_sem, reduceIte, Nat.reduceEqDiff, Nat.reduceLT, Nat.reduceLeDiff, Nat.reduceAdd, Nat.reduceSub, Nat.reduceMul, Nat.reducePow, Int.reduceNe, Int.reduceLT, Int.reduceLE, Int.reduceEq, Int.reduceToNat, Int.reduceNeg, Int.reduceAdd, Int.reduceSub, reduceCtorEq, not_false_eq_true, not_true_eq_false, ne_eq, wx, wy, wM, wD, hy]) | (refine call_pure (o1) rfl ?_; simp only [go_sem, reduceIte, Nat.reduceEqDiff, Nat.reduceLT, Nat.reduceLeDiff, Nat.reduceAdd, Nat.reduceSub, Nat.reduceMul, Nat.reducePow, Int.reduceNe, Int.reduceLT, Int.reduceLE, Int.reduceEq, Int.reduceToNat, Int.reduceNeg, Int.reduceAdd, Int.reduceSub, reduceCtorEq, not_false_eq_true, not_true_eq_false, ne_eq, wx, wy, wM, wD, hy]) | (refine call_pure (o2) rfl ?_; simp only [go_sem, reduceIte, Nat.reduceEqDiff, Nat.reduceLT, Nat.reduceLeDiff, Nat.reduceAdd, Nat.reduceSub, Nat.reduceMul, Nat.reducePow, Int.reduceNe, Int.reduceLT, Int.reduceLE, Int.reduceEq, Int.reduceToNat, Int.reduceNeg, Int.reduceAdd, Int.reduceSub, reduceCtorEq, not_false_eq_true, not_true_eq_false, ne_eq, wx, wy, wM, wD, hy]) | (refine call_pure (m1) rfl ?_; simp only [go_sem, reduceIte, Nat.reduceEqDiff, Nat.reduceLT, Nat.reduceLeDiff, Nat.reduceAdd, Nat.reduceSub, Nat.reduceMul, Nat.reducePow, Int.reduceNe, Int.reduceLT, Int.reduceLE, Int.reduceEq, Int.reduceToNat, Int.reduceNeg, Int.reduceAdd, Int.reduceSub, reduceCtorEq, not_false_eq_true, not_true_eq_false, ne_eq, wx, wy, wM, wD, hy]) | (refine call_pure (sM) rfl ?_; simp only [go_sem, reduceIte, Nat.reduceEqDiff, Nat.reduceLT, Nat.reduceLeDiff, Nat.reduceAdd, Nat.reduceSub, Nat.reduceMul, Nat.reducePow, Int.reduceNe, Int.reduceLT, Int.reduceLE, Int.reduceEq, Int.reduceToNat, Int.reduceNeg, Int.reduceAdd, Int.reduceSub, reduceCtorEq, not_false_eq_true, not_true_eq_false, ne_eq, wx, wy, wM, wD, hy]) | (refine call_pure (m2) rfl ?_; simp only [go_sem, reduceIte, Nat.reduceEqDiff, Nat.reduceLT, Nat.reduceLeDiff, Nat.reduceAdd, Nat.reduceSub, Nat.reduceMul, Nat.reducePow, Int.reduceNe, Int.reduceLT, Int.reduceLE, Int.reduceEq, Int.reduceToNat, Int.reduceNeg, Int.reduceAdd, Int.reduceSub, reduceCtorEq, not_false_eq_true, not_true_eq_false, ne_eq, wx, wy, wM, wD, hy]) | (refine call_pure (sD) rfl ?_; simp only [go_sem, reduceIte, Nat.reduceEqDiff, Nat.reduceLT, Nat.reduceLeDiff, Nat.reduceAdd, Nat.reduceSub, Nat.reduceMul, Nat.reducePow, Int.reduceNe, Int.reduceLT, Int.reduceLE, Int.reduceEq, Int.reduceToNat, Int.reduceNeg, Int.reduceAdd, Int.reduceSub, reduceCtorEq, not_false_eq_true, not_true_eq_false, ne_eq, wx, wy, wM, wD, hy]) | (refine call_pure (cc) rfl ?_; simp only [go_sem, reduceIte, Nat.reduceEqDiff, Nat.reduceLT, Nat.reduceLeDiff, Nat.reduceAdd, Nat.reduceSub, Nat.reduceMul, Nat.reducePow, Int.reduceNe, Int.reduceLT, Int.reduceLE, Int.reduceEq, Int.reduceToNat, Int.reduceNeg, Int.reduceAdd, Int.reduceSub, reduceCtorEq, not_false_eq_true, not_true_eq_false, ne_eq, wx, wy, wM, wD, hy]) | (refine call_pure (sg) rfl ?_; simp only [go_sem, reduceIte, Nat.reduceEqDiff, Nat.reduceLT, Nat.reduceLeDiff, Nat.reduceAdd, Nat.reduceSub, Nat.reduceMul, Nat.reducePow, Int.reduceNe, Int.reduceLT, Int.reduceLE, Int.reduceEq, Int.reduceToNat, Int.reduceNeg, Int.reduceAdd, Int.reduceSub, reduceCtorEq, not_false_eq_true, not_true_eq_false, ne_eq, wx, wy, wM, wD, hy]) | (refine call_pure (eu) rfl ?_; simp only [go_sem, reduceIte, Nat.reduceEqDiff, Nat.reduceLT, Nat.reduceLeDiff, Nat.reduceAdd, Nat.reduceSub, Nat.reduceMul, Nat.reducePow, Int.reduceNe, Int.reduceLT, Int.reduceLE, Int.reduceEq, Int.reduceToNat, Int.reduceNeg, Int.reduceAdd, Int.reduceSub, reduceCtorEq, not_false_eq_true, not_true_eq_false, ne_eq, wx, wy, wM, wD, hy]) | (refine call_pure (sQ) rfl ?_; simp only [go_sem, reduceIte, Nat.reduceEqDiff, Nat.reduceLT, Nat.reduceLeDiff, Nat.reduceAdd, Nat.reduceSub, Nat.reduceMul, Nat.reducePow, Int.reduceNe, Int.reduceLT, Int.reduceLE, Int.reduceEq, Int.reduceToNat, Int.reduceNeg, Int.reduceAdd, Int.reduceSub, reduceCtorEq, not_false_eq_true, not_true_eq_false, ne_eq, wx, wy, wM, wD, hy]) | (refine call_pure (sR) rfl ?_; simp only [go_sem, reduceIte, Nat.reduceEqDiff, Nat.reduceLT, Nat.reduceLeDiff, Nat.reduceAdd, Nat.reduceSub, Nat.reduceMul, Nat.reducePow, Int.reduceNe, Int.reduceLT, Int.reduceLE, Int.reduceEq, Int.reduceToNat, Int.reduceNeg, Int.reduceAdd, Int.reduceSub, reduceCtorEq, not_false_eq_true, not_true_eq_false, ne_eq, wx, wy, wM, wD, hy])))
    refine opA_max rfl (by simp only [go_sem, reduceIte, Nat.reduceEqDiff, Nat.reduceLT, Nat.reduceLeDiff, Nat.reduceAdd, Nat.reduceSub, Nat.reduceMul, Nat.reducePow, Int.reduceNe, Int.reduceLT, Int.reduceLE, Int.reduceEq, Int.reduceToNat, Int.reduceNeg, Int.reduceAdd, Int.reduceSub, reduceCtorEq, not_false_eq_true, not_true_eq_false, ne_eq] <;> rfl) (by simp only [go_sem, reduceIte, Nat.reduceEqDiff, Nat.reduceLT, Nat.reduceLeDiff, Nat.reduceAdd, Nat.reduceSub, Nat.reduceMul, Nat.reducePow, Int.reduceNe, Int.reduceLT, Int.reduceLE, Int.reduceEq, Int.reduceToNat, Int.reduceNeg, Int.reduceAdd, Int.reduceSub, reduceCtorEq, not_false_eq_true, not_true_eq_false, ne_eq] <;> rfl) (Nat.le_refl _) ?_
    simp only [go_sem, reduceIte, Nat.reduceEqDiff, Nat.reduceLT, Nat.reduceLeDiff, Nat.reduceAdd, Nat.reduceSub, Nat.reduceMul, Nat.reducePow, Int.reduceNe, Int.reduceLT, Int.reduceLE, Int.reduceEq, Int.reduceToNat, Int.reduceNeg, Int.reduceAdd, Int.reduceSub, reduceCtorEq, not_false_eq_true, not_true_eq_false, ne_eq, wx, wy, wM, wD, hy]
    refine opA_max rfl (by simp only [go_sem, reduceIte, Nat.reduceEqDiff, Nat.reduceLT, Nat.reduceLeDiff, Nat.reduceAdd, Nat.reduceSub, Nat.reduceMul, Nat.reducePow, Int.reduceNe, Int.reduceLT, Int.reduceLE, Int.reduceEq, Int.reduceToNat, Int.reduceNeg, Int.reduceAdd, Int.reduceSub, reduceCtorEq, not_false_eq_true, not_true_eq_false, ne_eq] <;> rfl) (by simp only [go_sem, reduceIte, Nat.reduceEqDiff, Nat.reduceLT, Nat.reduceLeDiff, Nat.reduceAdd, Nat.reduceSub, Nat.reduceMul, Nat.reducePow, Int.reduceNe, Int.reduceLT, Int.reduceLE, Int.reduceEq, Int.reduceToNat, Int.reduceNeg, Int.reduceAdd, Int.reduceSub, reduceCtorEq, not_false_eq_true, not_true_eq_false, ne_eq] <;> rfl) (Nat.le_refl _) ?_
    simp only [go_sem, reduceIte, Nat.reduceEqDiff, Nat.reduceLT, Nat.reduceLeDiff, Nat.reduceAdd, Nat.reduceSub, Nat.reduceMul, Nat.reducePow, Int.reduceNe, Int.reduceLT, Int.reduceLE, Int.reduceEq, Int.reduceToNat, Int.reduceNeg, Int.reduceAdd, Int.reduceSub, reduceCtorEq, not_false_eq_true, not_true_eq_false, ne_eq, wx, wy, wM, wD, hy]
    rw [hN, hrest]
    refine ⟨fun _ => by omega, ?_⟩
    simp only [go_sem, reduceIte, Nat.reduceEqDiff, Nat.reduceLT, Nat.reduceLeDiff, Nat.reduceAdd, Nat.reduceSub, Nat.reduceMul, Nat.reducePow, Int.reduceNe, Int.reduceLT, Int.reduceLE, Int.reduceEq, Int.reduceToNat, Int.reduceNeg, Int.reduceAdd, Int.reduceSub, reduceCtorEq, not_false_eq_true, not_true_eq_false, ne_eq, wx, wy, wM, wD, hy]
    rw [wrap_i64 (n := x - x % y) (by omega) (by omega), quo_eq hy, wrap_i64 (n := x / y) (by omega) (by omega)]
end Go.Proofs.Ytohpbppplfdieaa
