/- At every input the call answers true and leaves its arguments as they were; no conditions. -/
import Derived.Test.YtgnfgaioeldagaaGreatWa
set_option linter.unusedSimpArgs false
set_option linter.unusedVariables false
namespace Go.Proofs.YtgnfgaioeldagaaGreat
open Go Go.Abs
set_option maxHeartbeats 4000000
theorem fz_agg1 {H : Heap} {a : C} {x : T} (h1 : FzC H a x) : FzA H (.agg [a]) (.agg [x]) := .agg rfl fun j h h' => by
  match j, h, h' with
  | 0, _, _ => exact h1
  | j + 1, h, _ => simp at h
/-- What divided tells. -/
def divQ (m n : Nat) (up : Bool) : Nat := if up = true ∧ m % n ≠ 0 then m / n + 1 else m / n
def divR (m n : Nat) (up : Bool) : Nat := if up = true ∧ m % n ≠ 0 then n - m % n else m % n

set_option maxRecDepth 100000 in
theorem w_divided (m n : Nat) (up : Bool) (ha : (dig m).length < 100000000000) (hb : (dig n).length < 100000000000) : PCall Tryz.prog 144 [gZ (dig m), gZ (dig n), tB up] (.tup [gZ (dig (divQ m n up)), gZ (dig (divR m n up))]) := by
  refine pcall_of_wpA mixed Tryz.call144 Tryz.func144 rfl Tryz.ntmps144 Tryz.results144 (by simp) (by decide) ?_
  simp only [go_sem]
  have hdiv := p_nat_Div (dig m) (dig n) (by omega) (by omega)
  rw [vN_dig, vN_dig] at hdiv
  refine call_pure hdiv rfl ?_
  simp only [go_sem]
  cases up with
  | false =>
    have e1 : divQ m n false = m / n := by simp [divQ]
    have e2 : divR m n false = m % n := by simp [divR]
    rw [e1, e2]
    simp only [go_sem]
    exact fz_tup2 (fz_agg1 .t) (fz_agg1 .t)
  | true =>
    have hm := val_lt (dig_lt m)
    rw [val_dig] at hm
    have l1 : (dig (m / n)).length ≤ (dig m).length := dig_length_le (Nat.lt_of_le_of_lt (Nat.div_le_self _ _) hm)
    have l2 : (dig (m % n)).length ≤ (dig m).length := dig_length_le (Nat.lt_of_le_of_lt (Nat.mod_le _ _) hm)
    by_cases hr : m % n = 0
    · have e1 : divQ m n true = m / n := by simp [divQ, hr]
      have e2 : divR m n true = m % n := by simp [divR, hr]
      have h0 : ¬ (0 : Int) < ((dig (m % n)).length : Int) := by rw [hr, dig_zero]; simp
      rw [e1, e2]
      simp only [go_sem, h0]
      exact fz_tup2 (fz_agg1 .t) (fz_agg1 .t)
    · have e1 : divQ m n true = m / n + 1 := by simp [divQ, hr]
      have e2 : divR m n true = n - m % n := by simp [divR, hr]
      have h0 : (0 : Int) < ((dig (m % n)).length : Int) := by
        have : dig (m % n) ≠ [] := fun e => hr (dig_eq_nil.1 e)
        have := List.length_pos_iff.2 this
        omega
      have hone := p_nat_Of 1 (by decide)
      have l3 : (dig 1).length ≤ 3 := dig_length_le (by decide)
      have hadd := p_nat_Add (dig (m / n)) (dig 1) (by omega) (by omega)
      have hsub := p_nat_Sub (dig n) (dig (m % n)) (by omega) (by omega)
      rw [vN_dig, vN_dig] at hadd hsub
      rw [e1, e2]
      simp only [go_sem, h0]
      refine regA_by 0 rfl ?_
      simp only [go_sem]
      refine call_pure hone rfl ?_
      simp only [go_sem]
      refine call_pure hadd rfl ?_
      simp only [go_sem]
      refine call_pure hsub rfl ?_
      simp only [go_sem]
      exact fz_tup2 (fz_agg1 .t) (fz_agg1 .t)
end Go.Proofs.YtgnfgaioeldagaaGreat
namespace Go.Proofs.YtgnfgaioeldagaaGreat
open Go Go.Abs
set_option maxHeartbeats 4000000
theorem euclid_law (x y : Int) (hy : y ≠ 0) : x / y = (if (decide (x < 0) != decide (y < 0)) = true then -(divQ x.natAbs y.natAbs (decide (x < 0)) : Int) else (divQ x.natAbs y.natAbs (decide (x < 0)) : Int)) ∧ x % y = (divR x.natAbs y.natAbs (decide (x < 0)) : Int) := by
  have hn : 0 < y.natAbs := by omega
  have hd := Nat.div_add_mod x.natAbs y.natAbs
  have hl := Nat.mod_lt x.natAbs hn
  unfold divQ divR
  generalize x.natAbs / y.natAbs = q at *
  generalize x.natAbs % y.natAbs = r at *
  have hd' : (y.natAbs : Int) * q + r = x.natAbs := by exact_mod_cast hd
  have key : ∀ Q R : Int, x = y * Q + R → 0 ≤ R → R < y.natAbs → x / y = Q ∧ x % y = R := fun Q R e h0 h1 => by
    have h2 : R / y = 0 := by
      rcases Int.lt_or_le y 0 with h | h
      · rw [show y = -(-y) by omega, Int.ediv_neg, Int.ediv_eq_zero_of_lt h0 (by omega)]; rfl
      · exact Int.ediv_eq_zero_of_lt h0 (by omega)
    have h3 : x / y = Q := by rw [e, Int.add_comm, Int.add_mul_ediv_left _ _ hy, h2, Int.zero_add]
    refine ⟨h3, ?_⟩
    rw [Int.emod_def, h3, e]; omega
  have hq : ∀ Q : Int, y * (-Q) = -(y * Q) := fun Q => Int.mul_neg y Q
  have hyn : y < 0 → (y.natAbs : Int) = -y := by omega
  have hyp : 0 ≤ y → (y.natAbs : Int) = y := by omega
  have hneg : ∀ Q : Int, (-y) * Q = -(y * Q) := fun Q => Int.neg_mul y Q
  rcases Int.lt_or_le x 0 with hx | hx <;> rcases Int.lt_or_le y 0 with hy' | hy' <;> by_cases hr : r = 0
  all_goals
    first | rw [hyn hy', hneg] at hd' | rw [hyp hy'] at hd'
    simp only [hx, hy', hr, Int.not_lt.2 hx, Int.not_lt.2 hy', decide_true, decide_false, show (true != false) = true from rfl, show (false != true) = true from rfl, bne_self_eq_false, Bool.false_eq_true, if_false, if_true, ne_eq, not_true_eq_false, not_false_eq_true, and_self, and_false, false_and, true_and]
    refine key _ _ ?_ ?_ ?_ <;> (try simp only [Int.natCast_add, Int.natCast_one, Int.mul_neg, Int.mul_add, Int.mul_one, Int.neg_add]) <;> omega
end Go.Proofs.YtgnfgaioeldagaaGreat
namespace Go.Proofs.YtgnfgaioeldagaaGreat
open Go Go.Abs
set_option maxHeartbeats 4000000
set_option maxRecDepth 100000 in
theorem w_Euclid (s : Bool) (a : List Nat) (t : Bool) (b : List Nat) (ha : a.length < 10000000000) (hb : b.length < 10000000000) : PCall Tryz.prog 124 [gI s a, gI t b] (.tup [eI (iv s a / iv t b), eI (iv s a % iv t b)]) := by
  refine pcall_of_wpA mixed Tryz.call124 Tryz.func124 rfl Tryz.ntmps124 Tryz.results124 (by simp) (by decide) ?_
  simp only [go_sem]
  refine regA_by 0 rfl ?_
  simp only [go_sem]
  refine call_pure (w_of' s a (by omega)) rfl ?_
  simp only [go_sem]
  refine call_pure (w_of' t b (by omega)) rfl ?_
  have hl1 := iv_len s a
  have hl2 := iv_len t b
  generalize iv s a = x at *
  generalize iv t b = y at *
  simp only [go_sem]
  refine call_pure (w_none (dig y.natAbs)) rfl ?_
  by_cases hy : y = 0
  · subst hy
    have e0 : (dig (0 : Int).natAbs).length = 0 := by simp [dig_zero]
    have hwh := w_whole (dig x.natAbs) (decide (x < 0))
    have hsg : (decide (x < 0) && decide (dig x.natAbs ≠ [])) = decide (x < 0) := by
      rw [Bool.eq_iff_iff]; simp [dig_eq_nil]; omega
    rw [neg_of hsg rfl] at hwh
    rw [Int.ediv_zero, Int.emod_zero]
    simp only [go_sem, e0]
    refine regA_by 0 rfl ?_
    simp only [go_sem]
    refine call_pure (w_copied _ (by omega)) rfl ?_
    simp only [go_sem]
    refine call_pure hwh rfl ?_
    simp only [go_sem]
    have e3 : eI 0 = gI false [] := by unfold eI; simp [dig_zero]
    rw [e3]
    exact fz_tup2 (fz_agg2 .t .weak) (fz_agg2 .t .t)
  · have hne : ¬ (dig y.natAbs).length = 0 := fun e => by
      have := dig_eq_nil.1 (List.length_eq_zero_iff.1 e); omega
    have hdv := w_divided x.natAbs y.natAbs (decide (x < 0)) (by omega) (by omega)
    have law := euclid_law x y hy
    generalize divQ x.natAbs y.natAbs (decide (x < 0)) = q at *
    generalize divR x.natAbs y.natAbs (decide (x < 0)) = r at *
    have hq1 : (x / y).natAbs = q := by rw [law.1]; split <;> omega
    have hr1 : (x % y).natAbs = r := by rw [law.2]; omega
    have hw1 := w_whole (dig q) (decide (x < 0) != decide (y < 0))
    have hw2 := w_whole (dig r) false
    have s1 : ((decide (x < 0) != decide (y < 0)) && decide (dig q ≠ [])) = decide (x / y < 0) := by
      rw [Bool.eq_iff_iff]; simp only [ne_eq, Bool.and_eq_true, decide_eq_true_eq, dig_eq_nil]
      rw [law.1]; split <;> simp_all <;> omega
    have s2 : (false && decide (dig r ≠ [])) = decide (x % y < 0) := by
      rw [Bool.false_and]; symm; rw [decide_eq_false_iff_not, law.2]; omega
    rw [s1, ← hq1] at hw1
    rw [s2, ← hr1] at hw2
    rw [← hq1, ← hr1] at hdv
    simp only [go_sem, hne]
    refine call_pure hdv rfl ?_
    simp only [go_sem]
    refine regA_by 0 rfl ?_
    simp only [go_sem]
    refine call_pure hw1 rfl ?_
    simp only [go_sem]
    refine call_pure hw2 rfl ?_
    simp only [go_sem]
    exact fz_tup2 (fz_agg2 .t .t) (fz_agg2 .t .t)
end Go.Proofs.YtgnfgaioeldagaaGreat
namespace Go.Proofs.YtgnfgaioeldagaaGreat
open Go Go.Abs
set_option maxHeartbeats 4000000
theorem floor_law (x y : Int) (hy : y ≠ 0) : Int.fdiv x y = (if (decide (x < 0) != decide (y < 0)) = true then -(divQ x.natAbs y.natAbs (decide (x < 0) != decide (y < 0)) : Int) else (divQ x.natAbs y.natAbs (decide (x < 0) != decide (y < 0)) : Int)) ∧ Int.fmod x y = (if y < 0 then -(divR x.natAbs y.natAbs (decide (x < 0) != decide (y < 0)) : Int) else (divR x.natAbs y.natAbs (decide (x < 0) != decide (y < 0)) : Int)) := by
  have hn : 0 < y.natAbs := by omega
  have hd := Nat.div_add_mod x.natAbs y.natAbs
  have hl := Nat.mod_lt x.natAbs hn
  unfold divQ divR
  generalize x.natAbs / y.natAbs = q at *
  generalize x.natAbs % y.natAbs = r at *
  have hd' : (y.natAbs : Int) * q + r = x.natAbs := by exact_mod_cast hd
  have key : ∀ Q R : Int, x = y * Q + R → ((0 < y → 0 ≤ R ∧ R < y) ∧ (y < 0 → R ≤ 0 ∧ y < R)) → Int.fdiv x y = Q ∧ Int.fmod x y = R := fun Q R e h => by
    have h2 : Int.fdiv R y = 0 := by
      rcases Int.lt_or_le y 0 with h' | h'
      · rw [← Int.neg_fdiv_neg, Int.fdiv_eq_ediv_of_nonneg _ (by omega)]
        have := h.2 h'
        exact Int.ediv_eq_zero_of_lt (by omega) (by omega)
      · have := h.1 (by omega)
        rw [Int.fdiv_eq_ediv_of_nonneg _ h']
        exact Int.ediv_eq_zero_of_lt (by omega) (by omega)
    have h3 : Int.fdiv x y = Q := by rw [e, Int.add_comm, Int.add_mul_fdiv_left _ _ hy, h2, Int.zero_add]
    refine ⟨h3, ?_⟩
    rw [Int.fmod_def, h3, e]; omega
  have hyn : y < 0 → (y.natAbs : Int) = -y := by omega
  have hyp : 0 ≤ y → (y.natAbs : Int) = y := by omega
  have hneg : ∀ Q : Int, (-y) * Q = -(y * Q) := fun Q => Int.neg_mul y Q
  rcases Int.lt_or_le x 0 with hx | hx <;> rcases Int.lt_or_le y 0 with hy' | hy' <;> by_cases hr : r = 0
  all_goals
    first | rw [hyn hy', hneg] at hd' | rw [hyp hy'] at hd'
    simp only [hx, hy', hr, Int.not_lt.2 hx, Int.not_lt.2 hy', decide_true, decide_false, show (true != false) = true from rfl, show (false != true) = true from rfl, show (true != true) = false from rfl, show (false != false) = false from rfl, Bool.false_eq_true, if_false, if_true, ne_eq, not_true_eq_false, not_false_eq_true, and_self, and_false, false_and, true_and]
    refine key _ _ ?_ ?_ <;> (try simp only [Int.natCast_add, Int.natCast_one, Int.mul_neg, Int.mul_add, Int.mul_one, Int.neg_add]) <;> omega
end Go.Proofs.YtgnfgaioeldagaaGreat
namespace Go.Proofs.YtgnfgaioeldagaaGreat
open Go Go.Abs
set_option maxHeartbeats 4000000
end Go.Proofs.YtgnfgaioeldagaaGreat
namespace Go.Proofs.YtgnfgaioeldagaaGreat
open Go Go.Abs
set_option maxHeartbeats 4000000
end Go.Proofs.YtgnfgaioeldagaaGreat
