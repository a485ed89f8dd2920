/- At every input the call answers true and leaves its arguments as they were; no conditions. -/
import Derived.Test.YtohpbppplfdieaaLb
set_option linter.unusedSimpArgs false
set_option linter.unusedVariables false
namespace Go.Proofs.Ytohpbppplfdieaa
open Go Go.Abs
set_option maxHeartbeats 4000000
/-- What Small tells of what fits (proved by the kit's walk elsewhere). -/
def SmallSpec : Prop := ∀ (s : Bool) (a : List Nat), a.length < 100000 → -9223372036854775808 ≤ iv s a → iv s a < 9223372036854775808 → PCall Try.prog 35 [gI s a] (.tup [tI .i64 (iv s a), tB true])

set_option maxRecDepth 100000 in
theorem w_Small_out (s : Bool) (a : List Nat) (ha : a.length < 100000) (h : ¬ (-9223372036854775808 ≤ iv s a ∧ iv s a < 9223372036854775808)) : PCall Try.prog 35 [gI s a] (.tup [tI .i64 0, tB false]) := by
  refine pcall_of_wpA mixed Try.call35 Try.func35 rfl Try.ntmps35 Try.results35 (by simp) (by decide) ?_
  have hof := w_of' s a (by omega)
  have hl1 := iv_len s a
  generalize iv s a = x at *
  obtain ⟨t1, ht1⟩ : ∃ t : Nat, t = 9223372036854775807 := ⟨_, rfl⟩
  obtain ⟨t2, ht2⟩ : ∃ t : Nat, t = 9223372036854775808 := ⟨_, rfl⟩
  have o1 : PCall Try.prog 66 [tI .u64 9223372036854775807] (tN (dig t1)) := by rw [ht1]; exact p_nat_Of 9223372036854775807 (by decide)
  have o2 : PCall Try.prog 66 [tI .u64 9223372036854775808] (tN (dig t2)) := by rw [ht2]; exact p_nat_Of 9223372036854775808 (by decide)
  have z1 : (dig t1).length ≤ 3 := dig_length_le (by rw [ht1]; decide)
  have z2 : (dig t2).length ≤ 3 := dig_length_le (by rw [ht2]; decide)
  have v1 := w_over (dig x.natAbs) (dig t1) (by omega) (by omega)
  have v2 := w_over (dig x.natAbs) (dig t2) (by omega) (by omega)
  rw [vN_dig, vN_dig] at v1 v2
  by_cases hn : x < 0
  · have v3 := tB_of v2 (by omega)
    simp only [go_sem, reduceIte, Nat.reduceEqDiff, Nat.reduceLT, Nat.reduceLeDiff, Nat.reduceAdd, Nat.reduceSub, Nat.reduceMul, Nat.reducePow, Int.reduceNe, Int.reduceLT, Int.reduceLE, Int.reduceEq, Int.reduceToNat, Int.reduceNeg, Int.reduceAdd, Int.reduceSub, reduceCtorEq, not_false_eq_true, not_true_eq_false, ne_eq]
    (repeat (first | (refine regA_by 0 rfl ?_; simp only [go_sem, reduceIte, Nat.reduceEqDiff, Nat.reduceLT, Nat.reduceLeDiff, Nat.reduceAdd, Nat.reduceSub, Nat.reduceMul, Nat.reducePow, Int.reduceNe, Int.reduceLT, Int.reduceLE, Int.reduceEq, Int.reduceToNat, Int.reduceNeg, Int.reduceAdd, Int.reduceSub, reduceCtorEq, not_false_eq_true, not_true_eq_false, ne_eq, hn]) | (refine call_pure (hof) rfl ?_; simp only [go_sem, reduceIte, Nat.reduceEqDiff, Nat.reduceLT, Nat.reduceLeDiff, Nat.reduceAdd, Nat.reduceSub, Nat.reduceMul, Nat.reducePow, Int.reduceNe, Int.reduceLT, Int.reduceLE, Int.reduceEq, Int.reduceToNat, Int.reduceNeg, Int.reduceAdd, Int.reduceSub, reduceCtorEq, not_false_eq_true, not_true_eq_false, ne_eq, hn]) | (refine call_pure (o1) rfl ?_; simp only [go_sem, reduceIte, Nat.reduceEqDiff, Nat.reduceLT, Nat.reduceLeDiff, Nat.reduceAdd, Nat.reduceSub, Nat.reduceMul, Nat.reducePow, Int.reduceNe, Int.reduceLT, Int.reduceLE, Int.reduceEq, Int.reduceToNat, Int.reduceNeg, Int.reduceAdd, Int.reduceSub, reduceCtorEq, not_false_eq_true, not_true_eq_false, ne_eq, hn]) | (refine call_pure (o2) rfl ?_; simp only [go_sem, reduceIte, Nat.reduceEqDiff, Nat.reduceLT, Nat.reduceLeDiff, Nat.reduceAdd, Nat.reduceSub, Nat.reduceMul, Nat.reducePow, Int.reduceNe, Int.reduceLT, Int.reduceLE, Int.reduceEq, Int.reduceToNat, Int.reduceNeg, Int.reduceAdd, Int.reduceSub, reduceCtorEq, not_false_eq_true, not_true_eq_false, ne_eq, hn]) | (refine call_pure (v3) rfl ?_; simp only [go_sem, reduceIte, Nat.reduceEqDiff, Nat.reduceLT, Nat.reduceLeDiff, Nat.reduceAdd, Nat.reduceSub, Nat.reduceMul, Nat.reducePow, Int.reduceNe, Int.reduceLT, Int.reduceLE, Int.reduceEq, Int.reduceToNat, Int.reduceNeg, Int.reduceAdd, Int.reduceSub, reduceCtorEq, not_false_eq_true, not_true_eq_false, ne_eq, hn])))
    exact fz_tup2 fzT fzT
  · have v3 := tB_of v1 (by omega)
    simp only [go_sem, reduceIte, Nat.reduceEqDiff, Nat.reduceLT, Nat.reduceLeDiff, Nat.reduceAdd, Nat.reduceSub, Nat.reduceMul, Nat.reducePow, Int.reduceNe, Int.reduceLT, Int.reduceLE, Int.reduceEq, Int.reduceToNat, Int.reduceNeg, Int.reduceAdd, Int.reduceSub, reduceCtorEq, not_false_eq_true, not_true_eq_false, ne_eq]
    (repeat (first | (refine regA_by 0 rfl ?_; simp only [go_sem, reduceIte, Nat.reduceEqDiff, Nat.reduceLT, Nat.reduceLeDiff, Nat.reduceAdd, Nat.reduceSub, Nat.reduceMul, Nat.reducePow, Int.reduceNe, Int.reduceLT, Int.reduceLE, Int.reduceEq, Int.reduceToNat, Int.reduceNeg, Int.reduceAdd, Int.reduceSub, reduceCtorEq, not_false_eq_true, not_true_eq_false, ne_eq, hn]) | (refine call_pure (hof) rfl ?_; simp only [go_sem, reduceIte, Nat.reduceEqDiff, Nat.reduceLT, Nat.reduceLeDiff, Nat.reduceAdd, Nat.reduceSub, Nat.reduceMul, Nat.reducePow, Int.reduceNe, Int.reduceLT, Int.reduceLE, Int.reduceEq, Int.reduceToNat, Int.reduceNeg, Int.reduceAdd, Int.reduceSub, reduceCtorEq, not_false_eq_true, not_true_eq_false, ne_eq, hn]) | (refine call_pure (o1) rfl ?_; simp only [go_sem, reduceIte, Nat.reduceEqDiff, Nat.reduceLT, Nat.reduceLeDiff, Nat.reduceAdd, Nat.reduceSub, Nat.reduceMul, Nat.reducePow, Int.reduceNe, Int.reduceLT, Int.reduceLE, Int.reduceEq, Int.reduceToNat, Int.reduceNeg, Int.reduceAdd, Int.reduceSub, reduceCtorEq, not_false_eq_true, not_true_eq_false, ne_eq, hn]) | (refine call_pure (o2) rfl ?_; simp only [go_sem, reduceIte, Nat.reduceEqDiff, Nat.reduceLT, Nat.reduceLeDiff, Nat.reduceAdd, Nat.reduceSub, Nat.reduceMul, Nat.reducePow, Int.reduceNe, Int.reduceLT, Int.reduceLE, Int.reduceEq, Int.reduceToNat, Int.reduceNeg, Int.reduceAdd, Int.reduceSub, reduceCtorEq, not_false_eq_true, not_true_eq_false, ne_eq, hn]) | (refine call_pure (v3) rfl ?_; simp only [go_sem, reduceIte, Nat.reduceEqDiff, Nat.reduceLT, Nat.reduceLeDiff, Nat.reduceAdd, Nat.reduceSub, Nat.reduceMul, Nat.reducePow, Int.reduceNe, Int.reduceLT, Int.reduceLE, Int.reduceEq, Int.reduceToNat, Int.reduceNeg, Int.reduceAdd, Int.reduceSub, reduceCtorEq, not_false_eq_true, not_true_eq_false, ne_eq, hn])))
    exact fz_tup2 fzT fzT
theorem w_Small_e (hS : SmallSpec) (x : Int) (hl : lN x < 100000) (h1 : -9223372036854775808 ≤ x) (h2 : x < 9223372036854775808) : PCall Try.prog 35 [eI x] (.tup [tI .i64 x, tB true]) := by
  have := hS (decide (x < 0)) (dig x.natAbs) hl (by rw [iv_eI]; exact h1) (by rw [iv_eI]; exact h2); rwa [iv_eI] at this
theorem w_Small_no (x : Int) (hl : lN x < 100000) (h : ¬ (-9223372036854775808 ≤ x ∧ x < 9223372036854775808)) : PCall Try.prog 35 [eI x] (.tup [tI .i64 0, tB false]) := w_Small_out _ _ hl (by rw [iv_eI]; exact h)
theorem w_Is_e (x : Int) (hl : lN x < 1099511627776) : PCall Try.prog 39 [eI x] (tB true) := tB_of (w_Is (decide (x < 0)) (dig x.natAbs) hl) (IsI_eI x)
set_option maxRecDepth 100000 in
theorem few2 (s : Bool) (a : List Nat) : PCall Try.prog 38 [gI s a] (tB (decide (a.length ≤ 8))) := by
  refine pcall_of_wpA mixed Try.call38 Try.func38 rfl Try.ntmps38 Try.results38 (by simp) (by decide) ?_
  simp only [go_sem, reduceIte, Nat.reduceEqDiff, Nat.reduceLT, Nat.reduceLeDiff, Nat.reduceAdd, Nat.reduceSub, Nat.reduceMul, Nat.reducePow, Int.reduceNe, Int.reduceLT, Int.reduceLE, Int.reduceEq, Int.reduceToNat, Int.reduceNeg, Int.reduceAdd, Int.reduceSub, reduceCtorEq, not_false_eq_true, not_true_eq_false, ne_eq]
  rw [decide_eq_decide]; omega
end Go.Proofs.Ytohpbppplfdieaa
namespace Go.Proofs.Ytohpbppplfdieaa
open Go Go.Abs
set_option maxHeartbeats 4000000
set_option maxRecDepth 100000 in
theorem known2 (hS : SmallSpec) : PCall Try.prog 33 [] (tB true) := by
  refine pcall_of_wpA mixed Try.call33 Try.func33 rfl Try.ntmps33 Try.results33 (by simp) (by decide) ?_
  obtain ⟨cm7, hm7⟩ : ∃ c : Int, c = (-7) := ⟨_, rfl⟩
  obtain ⟨cm2, hm2⟩ : ∃ c : Int, c = (-2) := ⟨_, rfl⟩
  obtain ⟨cp2, hp2⟩ : ∃ c : Int, c = 2 := ⟨_, rfl⟩
  obtain ⟨cp4, hp4⟩ : ∃ c : Int, c = 4 := ⟨_, rfl⟩
  obtain ⟨cp1, hp1⟩ : ∃ c : Int, c = 1 := ⟨_, rfl⟩
  obtain ⟨cm4, hm4⟩ : ∃ c : Int, c = (-4) := ⟨_, rfl⟩
  obtain ⟨cm3, hm3⟩ : ∃ c : Int, c = (-3) := ⟨_, rfl⟩
  obtain ⟨cp5, hp5⟩ : ∃ c : Int, c = 5 := ⟨_, rfl⟩
  obtain ⟨cp3, hp3⟩ : ∃ c : Int, c = 3 := ⟨_, rfl⟩
  obtain ⟨cmn, hmn⟩ : ∃ c : Int, c = (-9223372036854775808) := ⟨_, rfl⟩
  have om7 : PCall Try.prog 34 [tI .i64 (-7)] (eI cm7) := by rw [hm7]; exact w_Of_e (-7) (by decide) (by decide)
  have om2 : PCall Try.prog 34 [tI .i64 (-2)] (eI cm2) := by rw [hm2]; exact w_Of_e (-2) (by decide) (by decide)
  have op2 : PCall Try.prog 34 [tI .i64 2] (eI cp2) := by rw [hp2]; exact w_Of_e 2 (by decide) (by decide)
  have op4 : PCall Try.prog 34 [tI .i64 4] (eI cp4) := by rw [hp4]; exact w_Of_e 4 (by decide) (by decide)
  have op1 : PCall Try.prog 34 [tI .i64 1] (eI cp1) := by rw [hp1]; exact w_Of_e 1 (by decide) (by decide)
  have om4 : PCall Try.prog 34 [tI .i64 (-4)] (eI cm4) := by rw [hm4]; exact w_Of_e (-4) (by decide) (by decide)
  have om3 : PCall Try.prog 34 [tI .i64 (-3)] (eI cm3) := by rw [hm3]; exact w_Of_e (-3) (by decide) (by decide)
  have op5 : PCall Try.prog 34 [tI .i64 5] (eI cp5) := by rw [hp5]; exact w_Of_e 5 (by decide) (by decide)
  have op3 : PCall Try.prog 34 [tI .i64 3] (eI cp3) := by rw [hp3]; exact w_Of_e 3 (by decide) (by decide)
  have omn : PCall Try.prog 34 [tI .i64 (-9223372036854775808)] (eI cmn) := by rw [hmn]; exact w_Of_e (-9223372036854775808) (by decide) (by decide)
  have lm7 : lN cm7 ≤ 1 := lN_small (by omega)
  have lm2 : lN cm2 ≤ 1 := lN_small (by omega)
  have lp2 : lN cp2 ≤ 1 := lN_small (by omega)
  have lp4 : lN cp4 ≤ 1 := lN_small (by omega)
  have lp1 : lN cp1 ≤ 1 := lN_small (by omega)
  have lm4 : lN cm4 ≤ 1 := lN_small (by omega)
  have lm3 : lN cm3 ≤ 1 := lN_small (by omega)
  have lp5 : lN cp5 ≤ 1 := lN_small (by omega)
  have lp3 : lN cp3 ≤ 1 := lN_small (by omega)
  have lmn : lN cmn ≤ 3 := lN_of (by rw [hmn]; decide)
  have eu := w_Euclid_e cm7 cm2 (by omega) (by omega)
  rw [show cm7 / cm2 = cp4 by rw [hm7, hm2, hp4]; decide, show cm7 % cm2 = cp1 by rw [hm7, hm2, hp1]; decide] at eu
  have fl := w_Floor_e cm7 cp2 (by omega) (by omega)
  rw [show Int.fdiv cm7 cp2 = cm4 by rw [hm7, hp2, hm4]; decide, show Int.fmod cm7 cp2 = cp1 by rw [hm7, hp2, hp1]; decide] at fl
  have sm : PCall Try.prog 35 [eI cmn] (.tup [tI .i64 (-9223372036854775808), tB true]) := by
    have := w_Small_e hS cmn (by omega) (by omega) (by omega)
    rwa [show tI .i64 cmn = tI .i64 (-9223372036854775808) by rw [hmn]] at this
  have s4 := tB_of (w_Same_e cp4 cp4 (by omega) (by omega)) rfl
  have s1 := tB_of (w_Same_e cp1 cp1 (by omega) (by omega)) rfl
  have sm4 := tB_of (w_Same_e cm4 cm4 (by omega) (by omega)) rfl
  have sg := w_Sign_e cm3 (by omega)
  rw [show cm3.sign = -1 by rw [hm3]; rfl] at sg
  have is5 := w_Is_e cp5 (by omega)
  have isn := tB_not (w_Is true [] (by simp)) (by simp [IsI])
  have ad := w_Add_e cp2 cp3 (by omega) (by omega)
  rw [show cp2 + cp3 = cp5 by omega] at ad
  have cp := w_Cmp_e cp5 cp5 (by omega) (by omega)
  rw [cmpI_eq rfl] at cp
  clear hm7 hm2 hp2 hp4 hp1 hm4 hm3 hp5 hp3 hmn
  simp only [go_sem, reduceIte, Nat.reduceEqDiff, Nat.reduceLT, Nat.reduceLeDiff, Nat.reduceAdd, Nat.reduceSub, Nat.reduceMul, Nat.reducePow, Int.reduceNe, Int.reduceLT, Int.reduceLE, Int.reduceEq, Int.reduceToNat, Int.reduceNeg, Int.reduceAdd, Int.reduceSub, reduceCtorEq, not_false_eq_true, not_true_eq_false, ne_eq]
  (repeat (first | (refine regA_by 0 rfl ?_; simp only [go_sem, reduceIte, Nat.reduceEqDiff, Nat.reduceLT, Nat.reduceLeDiff, Nat.reduceAdd, Nat.reduceSub, Nat.reduceMul, Nat.reducePow, Int.reduceNe, Int.reduceLT, Int.reduceLE, Int.reduceEq, Int.reduceToNat, Int.reduceNeg, Int.reduceAdd, Int.reduceSub, reduceCtorEq, not_false_eq_true, not_true_eq_false, ne_eq]) | (refine call_pure (om7) rfl ?_; simp only [go_sem, reduceIte, Nat.reduceEqDiff, Nat.reduceLT, Nat.reduceLeDiff, Nat.reduceAdd, Nat.reduceSub, Nat.reduceMul, Nat.reducePow, Int.reduceNe, Int.reduceLT, Int.reduceLE, Int.reduceEq, Int.reduceToNat, Int.reduceNeg, Int.reduceAdd, Int.reduceSub, reduceCtorEq, not_false_eq_true, not_true_eq_false, ne_eq]) | (refine call_pure (om2) rfl ?_; simp only [go_sem, reduceIte, Nat.reduceEqDiff, Nat.reduceLT, Nat.reduceLeDiff, Nat.reduceAdd, Nat.reduceSub, Nat.reduceMul, Nat.reducePow, Int.reduceNe, Int.reduceLT, Int.reduceLE, Int.reduceEq, Int.reduceToNat, Int.reduceNeg, Int.reduceAdd, Int.reduceSub, reduceCtorEq, not_false_eq_true, not_true_eq_false, ne_eq]) | (refine call_pure (eu) rfl ?_; simp only [go_sem, reduceIte, Nat.reduceEqDiff, Nat.reduceLT, Nat.reduceLeDiff, Nat.reduceAdd, Nat.reduceSub, Nat.reduceMul, Nat.reducePow, Int.reduceNe, Int.reduceLT, Int.reduceLE, Int.reduceEq, Int.reduceToNat, Int.reduceNeg, Int.reduceAdd, Int.reduceSub, reduceCtorEq, not_false_eq_true, not_true_eq_false, ne_eq]) | (refine call_pure (op2) rfl ?_; simp only [go_sem, reduceIte, Nat.reduceEqDiff, Nat.reduceLT, Nat.reduceLeDiff, Nat.reduceAdd, Nat.reduceSub, Nat.reduceMul, Nat.reducePow, Int.reduceNe, Int.reduceLT, Int.reduceLE, Int.reduceEq, Int.reduceToNat, Int.reduceNeg, Int.reduceAdd, Int.reduceSub, reduceCtorEq, not_false_eq_true, not_true_eq_false, ne_eq]) | (refine call_pure (fl) rfl ?_; simp only [go_sem, reduceIte, Nat.reduceEqDiff, Nat.reduceLT, Nat.reduceLeDiff, Nat.reduceAdd, Nat.reduceSub, Nat.reduceMul, Nat.reducePow, Int.reduceNe, Int.reduceLT, Int.reduceLE, Int.reduceEq, Int.reduceToNat, Int.reduceNeg, Int.reduceAdd, Int.reduceSub, reduceCtorEq, not_false_eq_true, not_true_eq_false, ne_eq]) | (refine call_pure (omn) rfl ?_; simp only [go_sem, reduceIte, Nat.reduceEqDiff, Nat.reduceLT, Nat.reduceLeDiff, Nat.reduceAdd, Nat.reduceSub, Nat.reduceMul, Nat.reducePow, Int.reduceNe, Int.reduceLT, Int.reduceLE, Int.reduceEq, Int.reduceToNat, Int.reduceNeg, Int.reduceAdd, Int.reduceSub, reduceCtorEq, not_false_eq_true, not_true_eq_false, ne_eq]) | (refine call_pure (sm) rfl ?_; simp only [go_sem, reduceIte, Nat.reduceEqDiff, Nat.reduceLT, Nat.reduceLeDiff, Nat.reduceAdd, Nat.reduceSub, Nat.reduceMul, Nat.reducePow, Int.reduceNe, Int.reduceLT, Int.reduceLE, Int.reduceEq, Int.reduceToNat, Int.reduceNeg, Int.reduceAdd, Int.reduceSub, reduceCtorEq, not_false_eq_true, not_true_eq_false, ne_eq]) | (refine call_pure (op4) rfl ?_; simp only [go_sem, reduceIte, Nat.reduceEqDiff, Nat.reduceLT, Nat.reduceLeDiff, Nat.reduceAdd, Nat.reduceSub, Nat.reduceMul, Nat.reducePow, Int.reduceNe, Int.reduceLT, Int.reduceLE, Int.reduceEq, Int.reduceToNat, Int.reduceNeg, Int.reduceAdd, Int.reduceSub, reduceCtorEq, not_false_eq_true, not_true_eq_false, ne_eq]) | (refine call_pure (s4) rfl ?_; simp only [go_sem, reduceIte, Nat.reduceEqDiff, Nat.reduceLT, Nat.reduceLeDiff, Nat.reduceAdd, Nat.reduceSub, Nat.reduceMul, Nat.reducePow, Int.reduceNe, Int.reduceLT, Int.reduceLE, Int.reduceEq, Int.reduceToNat, Int.reduceNeg, Int.reduceAdd, Int.reduceSub, reduceCtorEq, not_false_eq_true, not_true_eq_false, ne_eq]) | (refine call_pure (op1) rfl ?_; simp only [go_sem, reduceIte, Nat.reduceEqDiff, Nat.reduceLT, Nat.reduceLeDiff, Nat.reduceAdd, Nat.reduceSub, Nat.reduceMul, Nat.reducePow, Int.reduceNe, Int.reduceLT, Int.reduceLE, Int.reduceEq, Int.reduceToNat, Int.reduceNeg, Int.reduceAdd, Int.reduceSub, reduceCtorEq, not_false_eq_true, not_true_eq_false, ne_eq]) | (refine call_pure (s1) rfl ?_; simp only [go_sem, reduceIte, Nat.reduceEqDiff, Nat.reduceLT, Nat.reduceLeDiff, Nat.reduceAdd, Nat.reduceSub, Nat.reduceMul, Nat.reducePow, Int.reduceNe, Int.reduceLT, Int.reduceLE, Int.reduceEq, Int.reduceToNat, Int.reduceNeg, Int.reduceAdd, Int.reduceSub, reduceCtorEq, not_false_eq_true, not_true_eq_false, ne_eq]) | (refine call_pure (om4) rfl ?_; simp only [go_sem, reduceIte, Nat.reduceEqDiff, Nat.reduceLT, Nat.reduceLeDiff, Nat.reduceAdd, Nat.reduceSub, Nat.reduceMul, Nat.reducePow, Int.reduceNe, Int.reduceLT, Int.reduceLE, Int.reduceEq, Int.reduceToNat, Int.reduceNeg, Int.reduceAdd, Int.reduceSub, reduceCtorEq, not_false_eq_true, not_true_eq_false, ne_eq]) | (refine call_pure (sm4) rfl ?_; simp only [go_sem, reduceIte, Nat.reduceEqDiff, Nat.reduceLT, Nat.reduceLeDiff, Nat.reduceAdd, Nat.reduceSub, Nat.reduceMul, Nat.reducePow, Int.reduceNe, Int.reduceLT, Int.reduceLE, Int.reduceEq, Int.reduceToNat, Int.reduceNeg, Int.reduceAdd, Int.reduceSub, reduceCtorEq, not_false_eq_true, not_true_eq_false, ne_eq]) | (refine call_pure (om3) rfl ?_; simp only [go_sem, reduceIte, Nat.reduceEqDiff, Nat.reduceLT, Nat.reduceLeDiff, Nat.reduceAdd, Nat.reduceSub, Nat.reduceMul, Nat.reducePow, Int.reduceNe, Int.reduceLT, Int.reduceLE, Int.reduceEq, Int.reduceToNat, Int.reduceNeg, Int.reduceAdd, Int.reduceSub, reduceCtorEq, not_false_eq_true, not_true_eq_false, ne_eq]) | (refine call_pure (sg) rfl ?_; simp only [go_sem, reduceIte, Nat.reduceEqDiff, Nat.reduceLT, Nat.reduceLeDiff, Nat.reduceAdd, Nat.reduceSub, Nat.reduceMul, Nat.reducePow, Int.reduceNe, Int.reduceLT, Int.reduceLE, Int.reduceEq, Int.reduceToNat, Int.reduceNeg, Int.reduceAdd, Int.reduceSub, reduceCtorEq, not_false_eq_true, not_true_eq_false, ne_eq]) | (refine call_pure (op5) rfl ?_; simp only [go_sem, reduceIte, Nat.reduceEqDiff, Nat.reduceLT, Nat.reduceLeDiff, Nat.reduceAdd, Nat.reduceSub, Nat.reduceMul, Nat.reducePow, Int.reduceNe, Int.reduceLT, Int.reduceLE, Int.reduceEq, Int.reduceToNat, Int.reduceNeg, Int.reduceAdd, Int.reduceSub, reduceCtorEq, not_false_eq_true, not_true_eq_false, ne_eq]) | (refine call_pure (is5) rfl ?_; simp only [go_sem, reduceIte, Nat.reduceEqDiff, Nat.reduceLT, Nat.reduceLeDiff, Nat.reduceAdd, Nat.reduceSub, Nat.reduceMul, Nat.reducePow, Int.reduceNe, Int.reduceLT, Int.reduceLE, Int.reduceEq, Int.reduceToNat, Int.reduceNeg, Int.reduceAdd, Int.reduceSub, reduceCtorEq, not_false_eq_true, not_true_eq_false, ne_eq])))
  refine call_fz (tvs' := [.agg [.lit (.bool true), .seq (some true) []]]) isn rfl (.cons (fz_agg2 .t .weak) .nil) ?_
  simp only [go_sem, reduceIte, Nat.reduceEqDiff, Nat.reduceLT, Nat.reduceLeDiff, Nat.reduceAdd, Nat.reduceSub, Nat.reduceMul, Nat.reducePow, Int.reduceNe, Int.reduceLT, Int.reduceLE, Int.reduceEq, Int.reduceToNat, Int.reduceNeg, Int.reduceAdd, Int.reduceSub, reduceCtorEq, not_false_eq_true, not_true_eq_false, ne_eq]
  (repeat (first | (refine regA_by 0 rfl ?_; simp only [go_sem, reduceIte, Nat.reduceEqDiff, Nat.reduceLT, Nat.reduceLeDiff, Nat.reduceAdd, Nat.reduceSub, Nat.reduceMul, Nat.reducePow, Int.reduceNe, Int.reduceLT, Int.reduceLE, Int.reduceEq, Int.reduceToNat, Int.reduceNeg, Int.reduceAdd, Int.reduceSub, reduceCtorEq, not_false_eq_true, not_true_eq_false, ne_eq]) | (refine call_pure (op2) rfl ?_; simp only [go_sem, reduceIte, Nat.reduceEqDiff, Nat.reduceLT, Nat.reduceLeDiff, Nat.reduceAdd, Nat.reduceSub, Nat.reduceMul, Nat.reducePow, Int.reduceNe, Int.reduceLT, Int.reduceLE, Int.reduceEq, Int.reduceToNat, Int.reduceNeg, Int.reduceAdd, Int.reduceSub, reduceCtorEq, not_false_eq_true, not_true_eq_false, ne_eq]) | (refine call_pure (op3) rfl ?_; simp only [go_sem, reduceIte, Nat.reduceEqDiff, Nat.reduceLT, Nat.reduceLeDiff, Nat.reduceAdd, Nat.reduceSub, Nat.reduceMul, Nat.reducePow, Int.reduceNe, Int.reduceLT, Int.reduceLE, Int.reduceEq, Int.reduceToNat, Int.reduceNeg, Int.reduceAdd, Int.reduceSub, reduceCtorEq, not_false_eq_true, not_true_eq_false, ne_eq]) | (refine call_pure (ad) rfl ?_; simp only [go_sem, reduceIte, Nat.reduceEqDiff, Nat.reduceLT, Nat.reduceLeDiff, Nat.reduceAdd, Nat.reduceSub, Nat.reduceMul, Nat.reducePow, Int.reduceNe, Int.reduceLT, Int.reduceLE, Int.reduceEq, Int.reduceToNat, Int.reduceNeg, Int.reduceAdd, Int.reduceSub, reduceCtorEq, not_false_eq_true, not_true_eq_false, ne_eq]) | (refine call_pure (op5) rfl ?_; simp only [go_sem, reduceIte, Nat.reduceEqDiff, Nat.reduceLT, Nat.reduceLeDiff, Nat.reduceAdd, Nat.reduceSub, Nat.reduceMul, Nat.reducePow, Int.reduceNe, Int.reduceLT, Int.reduceLE, Int.reduceEq, Int.reduceToNat, Int.reduceNeg, Int.reduceAdd, Int.reduceSub, reduceCtorEq, not_false_eq_true, not_true_eq_false, ne_eq]) | (refine call_pure (cp) rfl ?_; simp only [go_sem, reduceIte, Nat.reduceEqDiff, Nat.reduceLT, Nat.reduceLeDiff, Nat.reduceAdd, Nat.reduceSub, Nat.reduceMul, Nat.reducePow, Int.reduceNe, Int.reduceLT, Int.reduceLE, Int.reduceEq, Int.reduceToNat, Int.reduceNeg, Int.reduceAdd, Int.reduceSub, reduceCtorEq, not_false_eq_true, not_true_eq_false, ne_eq])))
end Go.Proofs.Ytohpbppplfdieaa
namespace Go.Proofs.Ytohpbppplfdieaa
open Go Go.Abs
theorem lN_ediv (x y : Int) : lN (x / y) ≤ lN x := lN_le (Int.natAbs_ediv_le_natAbs x y)
theorem emod_lt' (x : Int) {y : Int} (hy : y ≠ 0) : x % y < (y.natAbs : Int) := by
  by_cases h : 0 < y
  · have := Int.emod_lt_of_pos x h; omega
  · have := Int.emod_lt_of_pos x (show 0 < -y by omega)
    rw [Int.emod_neg] at this; omega
theorem lN_emod (x y : Int) : lN (x % y) ≤ max (lN x) (lN y) := by
  by_cases hy : y = 0
  · subst hy; rw [Int.emod_zero]; omega
  · have h1 := Int.emod_nonneg x hy
    have h2 := emod_lt' x hy
    have : lN (x % y) ≤ lN y := lN_le (by omega)
    omega
theorem divR_lt {m n : Nat} {up : Bool} (hn : 0 < n) : divR m n up < n := by
  have := Nat.mod_lt m hn
  unfold divR; split <;> omega
theorem divQ_le {m n : Nat} {up : Bool} : divQ m n up ≤ m + 1 := by
  have := Nat.div_le_self m n
  unfold divQ; split <;> omega
theorem lN_fdiv (x y : Int) : lN (Int.fdiv x y) ≤ lN x + 1 := by
  by_cases hy : y = 0
  · subst hy; rw [Int.fdiv_zero]; unfold lN; simp [dig_zero]
  · apply lN_of
    have h1 := lt_lN x
    have law := (floor_law x y hy).1
    have h2 := divQ_le (m := x.natAbs) (n := y.natAbs) (up := decide (x < 0) != decide (y < 0))
    generalize divQ x.natAbs y.natAbs (decide (x < 0) != decide (y < 0)) = q at *
    have h3 : (Int.fdiv x y).natAbs = q := by rw [law]; split <;> simp only [Int.natAbs_neg, Int.natAbs_natCast]
    have h4 : 0 < BB ^ lN x := Nat.pow_pos (by decide)
    rw [BB_pow_succ]; omega
theorem fmod_facts (x : Int) {y : Int} (hy : y ≠ 0) : Int.fmod x y = 0 ∨ ((Int.fmod x y).sign = y.sign ∧ (Int.fmod x y).natAbs < y.natAbs) := by
  have law := (floor_law x y hy).2
  have h2 := divR_lt (m := x.natAbs) (n := y.natAbs) (up := decide (x < 0) != decide (y < 0)) (by omega)
  generalize divR x.natAbs y.natAbs (decide (x < 0) != decide (y < 0)) = r at *
  rw [law]
  by_cases hr : r = 0
  · left; subst hr; split <;> rfl
  · right
    split
    · rename_i h
      refine ⟨?_, by rw [Int.natAbs_neg, Int.natAbs_natCast]; exact h2⟩
      rw [Int.sign_eq_neg_one_of_neg h, Int.sign_eq_neg_one_of_neg (by omega)]
    · rename_i h
      refine ⟨?_, by rw [Int.natAbs_natCast]; exact h2⟩
      rw [Int.sign_eq_one_of_pos (show 0 < y by omega), Int.sign_eq_one_of_pos (by omega)]
theorem lN_fmod (x y : Int) : lN (Int.fmod x y) ≤ max (lN x) (lN y) := by
  by_cases hy : y = 0
  · subst hy; rw [Int.fmod_zero]; omega
  · have : lN (Int.fmod x y) ≤ lN y := lN_le (by rcases fmod_facts x hy with h | ⟨_, h⟩ <;> omega)
    omega
theorem sign_ne {x : Int} (h : x ≠ 0) : ¬ x.sign = 0 := fun e => h (sign_zero.1 e)
theorem lN_zero : lN 0 = 0 := by unfold lN; simp [dig_zero]
end Go.Proofs.Ytohpbppplfdieaa
