/- At every input the call answers true and leaves its arguments as they were; no conditions. -/
import Derived.Test.YtpnmoecjhannnaaPe
import Derived.Test.YtpnmoecjhannnaaQe
set_option linter.unusedSimpArgs false
set_option linter.unusedVariables false
namespace Go.Proofs.Ytpnmoecjhannnaa
open Go Go.Abs
set_option maxHeartbeats 16000000
theorem fdiv_tdiv (k : Int) {m : Int} (hm : 0 < m) : Int.fdiv k m = if Int.tmod k m < 0 then Int.tdiv k m - 1 else Int.tdiv k m := by
  rw [Int.fdiv_eq_ediv_of_nonneg _ (by omega)]
  have h1 := Int.tmod_add_mul_tdiv k m
  have h2 : (Int.tmod k m).natAbs < m.natAbs := by rw [Int.natAbs_tmod]; exact Nat.mod_lt _ (by omega)
  generalize Int.tmod k m = r at *
  generalize Int.tdiv k m = q at *
  split
  · refine ((Int.ediv_emod_unique (r := r + m) hm).2 ⟨?_, by omega, by omega⟩).1
    rw [Int.mul_sub, Int.mul_one]; omega
  · exact ((Int.ediv_emod_unique (r := r) hm).2 ⟨by omega, by omega, by omega⟩).1
theorem fdiv_up (k : Int) {m : Int} (hm : 0 < m) : -(Int.fdiv (-k) m) = if 0 < Int.tmod k m then Int.tdiv k m + 1 else Int.tdiv k m := by
  rw [fdiv_tdiv (-k) hm, Int.neg_tmod, Int.neg_tdiv]
  generalize Int.tmod k m = r at *
  split <;> split <;> omega
theorem tdiv_bound (k : Int) {m : Int} (hm : 0 < m) : (Int.tdiv k m).natAbs ≤ k.natAbs := by
  rw [Int.natAbs_tdiv]; exact Nat.div_le_self _ _
set_option maxRecDepth 100000 in
theorem p_BelowRounds (c : Int) (hc0 : 0 ≤ c) (hc1 : c < 256) (k : Int) (hk0 : -32768 ≤ k) (hk1 : k < 32768) : PCall Try.prog 12 [tI .u8 c, tI .i16 k] (tB true) := by
  have hk := known7
  obtain ⟨m, hm⟩ : ∃ m, m = c + 1 := ⟨_, rfl⟩
  have hmp : 0 < m := by omega
  have wc : IntKind.wrap .i64 c = c := wrap_i64 (by omega) (by omega)
  have wm : IntKind.wrap .i64 (c + 1) = m := by rw [← hm]; exact wrap_i64 (by omega) (by omega)
  have wk : IntKind.wrap .i64 k = k := wrap_i64 (by omega) (by omega)
  have wn : IntKind.wrap .i64 (0 - k) = -k := by rw [show 0 - k = -k by omega]; exact wrap_i64 (by omega) (by omega)
  have e1 := fdiv_tdiv k hmp
  have e2 := fdiv_up k hmp
  have tb := tdiv_bound k hmp
  have wt : IntKind.wrap .i64 (Int.tdiv k m) = Int.tdiv k m := wrap_i64 (by omega) (by omega)
  have hmz : (m = 0) = False := eq_false (by omega)
  have om := i_Of m (by omega) (by omega)
  have ok := i_Of (-k) (by omega) (by omega)
  have o1 := i_Of 1 (by decide) (by decide)
  have on := i_Of (-1) (by decide) (by decide)
  have lm : lN m ≤ 1 := lN_small (by omega)
  have lk : lN (-k) ≤ 1 := lN_small (by omega)
  have lk' : lN k ≤ 1 := lN_small (by omega)
  have ln : lN (-m) ≤ 1 := lN_small (by omega)
  have n1 := b_Norm_e ([(2, m)], -k) (N := 1) (L := 1) (by decide) (by decide) (WF_single (by omega)) (Bd_single (by decide) lm lk)
  rw [norm_single 2 m (-k) (by omega), Int.sign_eq_one_of_pos hmp, Int.neg_neg, show (m.natAbs : Int) = m by omega, show clF ([(2, m)], -k) = 1 from if_neg (by simp)] at n1
  have n1 : PCall Try.prog 66 [litF 2 m (-k)] _ := n1.tw (.cons (litF_tw 2 m (-k)) .nil)
  have sc := (f6_Scale_e ([(2, m)], -k) (-1) (N := 1) (L := 1) (by decide) (by decide) (WF_single (by omega)) (Bd_single (by decide) lm lk) (by have := lN_small (z := -1) (by decide); omega)).tw (tvs' := [litF 2 m (-k), eI (-1)]) (.cons (litF_tw 2 m (-k)) (.cons .reflA .nil))
  have eS : scF ([(2, m)], -k) (-1) = ([(2, -m)], k) := by
    rw [scF_ne (by decide)]
    show ([(2, m * -1)], -k * -1) = _
    rw [show m * -1 = -m by omega, show -k * -1 = k by omega]
  rw [eS] at sc
  have n2 := b_Norm_e ([(2, -m)], k) (N := 1) (L := 1) (by decide) (by decide) (WF_single (by omega)) (Bd_single (by decide) ln lk')
  rw [norm_single 2 (-m) k (by omega), Int.sign_eq_neg_one_of_neg (by omega), show ((-m).natAbs : Int) = m by omega, e2, show clF ([(2, -m)], k) = 1 from if_neg (by simp)] at n2
  rw [e1] at n1
  obtain ⟨u1, h1⟩ : ∃ c : Int, c = 1 := ⟨_, rfl⟩
  obtain ⟨m1, h3⟩ : ∃ c : Int, c = -1 := ⟨_, rfl⟩
  have o1 : PCall Try.prog 16 [tI .i64 1] (eI u1) := by rw [h1]; exact o1
  have on : PCall Try.prog 16 [tI .i64 (-1)] (eI m1) := by rw [h3]; exact on
  rw [← h3] at sc n2
  have n1 : PCall Try.prog 66 [litF 2 m (-k)] (.tup [eF ([(2, u1)], -(if Int.tmod k m < 0 then Int.tdiv k m - 1 else Int.tdiv k m)), tI .i64 1]) := by rw [h1]; exact n1
  have lu : lN u1 ≤ 1 := lN_small (by omega)
  have lu2 : lN m1 ≤ 1 := lN_small (by omega)
  have q1 : ∀ q : Int, q.natAbs ≤ 100000 → PCall Try.prog 35 [eF ([(2, u1)], q), litF 2 u1 q] (tB true) := fun q hq =>
    have b := Bd_single (v := 2) (c := u1) (k := q) (L := 1) (by decide) lu (lN_small (by omega))
    (tB_of (f6_Equal _ _ (by decide) (by decide) b b) rfl).tw (.cons .reflA (.cons (litF_tw 2 u1 q) .nil))
  have q2 : ∀ q : Int, q.natAbs ≤ 100000 → PCall Try.prog 35 [eF ([(2, m1)], q), litF 2 m1 q] (tB true) := fun q hq =>
    have b := Bd_single (v := 2) (c := m1) (k := q) (L := 1) (by decide) lu2 (lN_small (by omega))
    (tB_of (f6_Equal _ _ (by decide) (by decide) b b) rfl).tw (.cons .reflA (.cons (litF_tw 2 m1 q) .nil))
  generalize hq : Int.tdiv k m = q at *
  generalize hr : Int.tmod k m = r at *
  have ofq : ∀ z : Int, z.natAbs ≤ 100000 → PCall Try.prog 16 [tI .i64 z] (eI z) := fun z hz => i_Of z (by omega) (by omega)
  clear h1 h3 e1 e2 eS hm
  by_cases r1 : r < 0
  · have r1' : (r < 0) = True := eq_true r1
    have r2' : (0 < r) = False := eq_false (by omega)
    rw [if_pos r1] at n1
    rw [if_neg (by omega)] at n2
    have w1 : IntKind.wrap .i64 (q - 1) = q - 1 := wrap_i64 (by omega) (by omega)
    have w2 : IntKind.wrap .i64 (0 - (q - 1)) = -(q - 1) := by rw [wrap_i64 (by omega) (by omega)]; omega
    have of1 := ofq (-(q - 1)) (by omega)
    have of2 := ofq q (by omega)
    have Q1 := q1 (-(q - 1)) (by omega)
    have Q2 := q2 q (by omega)
    refine pcall_of_wpA mixed Try.call12 Try.func12 rfl Try.ntmps12 Try.results12 (by simp) (by decide) ?_
    simp only [go_sem]
    ((repeat (refine regA_by 0 rfl ?_; simp only [go_sem, wc, wm, wk, wn, wt, hmz, hq, hr, r1', r2', w1, w2])); refine call_pure (hk) rfl ?_; simp only [go_sem, wc, wm, wk, wn, wt, hmz, hq, hr, r1', r2', w1, w2]; (repeat (refine regA_by 0 rfl ?_; simp only [go_sem, wc, wm, wk, wn, wt, hmz, hq, hr, r1', r2', w1, w2])); refine call_pure (om) rfl ?_; simp only [go_sem, wc, wm, wk, wn, wt, hmz, hq, hr, r1', r2', w1, w2]; (repeat (refine regA_by 0 rfl ?_; simp only [go_sem, wc, wm, wk, wn, wt, hmz, hq, hr, r1', r2', w1, w2])); refine call_pure (ok) rfl ?_; simp only [go_sem, wc, wm, wk, wn, wt, hmz, hq, hr, r1', r2', w1, w2]; (repeat (refine regA_by 0 rfl ?_; simp only [go_sem, wc, wm, wk, wn, wt, hmz, hq, hr, r1', r2', w1, w2])); refine call_pure (n1) rfl ?_; simp only [go_sem, wc, wm, wk, wn, wt, hmz, hq, hr, r1', r2', w1, w2]; (repeat (refine regA_by 0 rfl ?_; simp only [go_sem, wc, wm, wk, wn, wt, hmz, hq, hr, r1', r2', w1, w2])); refine call_pure (o1) rfl ?_; simp only [go_sem, wc, wm, wk, wn, wt, hmz, hq, hr, r1', r2', w1, w2]; (repeat (refine regA_by 0 rfl ?_; simp only [go_sem, wc, wm, wk, wn, wt, hmz, hq, hr, r1', r2', w1, w2])); refine call_pure (of1) rfl ?_; simp only [go_sem, wc, wm, wk, wn, wt, hmz, hq, hr, r1', r2', w1, w2]; (repeat (refine regA_by 0 rfl ?_; simp only [go_sem, wc, wm, wk, wn, wt, hmz, hq, hr, r1', r2', w1, w2])); refine call_pure (on) rfl ?_; simp only [go_sem, wc, wm, wk, wn, wt, hmz, hq, hr, r1', r2', w1, w2]; (repeat (refine regA_by 0 rfl ?_; simp only [go_sem, wc, wm, wk, wn, wt, hmz, hq, hr, r1', r2', w1, w2])); refine call_pure (sc) rfl ?_; simp only [go_sem, wc, wm, wk, wn, wt, hmz, hq, hr, r1', r2', w1, w2]; (repeat (refine regA_by 0 rfl ?_; simp only [go_sem, wc, wm, wk, wn, wt, hmz, hq, hr, r1', r2', w1, w2])); refine call_pure (n2) rfl ?_; simp only [go_sem, wc, wm, wk, wn, wt, hmz, hq, hr, r1', r2', w1, w2]; (repeat (refine regA_by 0 rfl ?_; simp only [go_sem, wc, wm, wk, wn, wt, hmz, hq, hr, r1', r2', w1, w2])); refine call_pure (on) rfl ?_; simp only [go_sem, wc, wm, wk, wn, wt, hmz, hq, hr, r1', r2', w1, w2]; (repeat (refine regA_by 0 rfl ?_; simp only [go_sem, wc, wm, wk, wn, wt, hmz, hq, hr, r1', r2', w1, w2])); refine call_pure (of2) rfl ?_; simp only [go_sem, wc, wm, wk, wn, wt, hmz, hq, hr, r1', r2', w1, w2]; (repeat (refine regA_by 0 rfl ?_; simp only [go_sem, wc, wm, wk, wn, wt, hmz, hq, hr, r1', r2', w1, w2])); refine call_pure (Q1) rfl ?_; simp only [go_sem, wc, wm, wk, wn, wt, hmz, hq, hr, r1', r2', w1, w2]; (repeat (refine regA_by 0 rfl ?_; simp only [go_sem, wc, wm, wk, wn, wt, hmz, hq, hr, r1', r2', w1, w2])); refine call_pure (Q2) rfl ?_; simp only [go_sem, wc, wm, wk, wn, wt, hmz, hq, hr, r1', r2', w1, w2]; (repeat (refine regA_by 0 rfl ?_; simp only [go_sem, wc, wm, wk, wn, wt, hmz, hq, hr, r1', r2', w1, w2])))
  · have r1' : (r < 0) = False := eq_false r1
    rw [if_neg r1] at n1
    have w2 : IntKind.wrap .i64 (0 - q) = -q := by rw [wrap_i64 (by omega) (by omega)]; omega
    have of1 := ofq (-q) (by omega)
    have Q1 := q1 (-q) (by omega)
    by_cases r2 : 0 < r
    · have r2' : (0 < r) = True := eq_true r2
      rw [if_pos r2] at n2
      have w1 : IntKind.wrap .i64 (q + 1) = q + 1 := wrap_i64 (by omega) (by omega)
      have of2 := ofq (q + 1) (by omega)
      have Q2 := q2 (q + 1) (by omega)
      refine pcall_of_wpA mixed Try.call12 Try.func12 rfl Try.ntmps12 Try.results12 (by simp) (by decide) ?_
      simp only [go_sem]
      ((repeat (refine regA_by 0 rfl ?_; simp only [go_sem, wc, wm, wk, wn, wt, hmz, hq, hr, r1', r2', w1, w2])); refine call_pure (hk) rfl ?_; simp only [go_sem, wc, wm, wk, wn, wt, hmz, hq, hr, r1', r2', w1, w2]; (repeat (refine regA_by 0 rfl ?_; simp only [go_sem, wc, wm, wk, wn, wt, hmz, hq, hr, r1', r2', w1, w2])); refine call_pure (om) rfl ?_; simp only [go_sem, wc, wm, wk, wn, wt, hmz, hq, hr, r1', r2', w1, w2]; (repeat (refine regA_by 0 rfl ?_; simp only [go_sem, wc, wm, wk, wn, wt, hmz, hq, hr, r1', r2', w1, w2])); refine call_pure (ok) rfl ?_; simp only [go_sem, wc, wm, wk, wn, wt, hmz, hq, hr, r1', r2', w1, w2]; (repeat (refine regA_by 0 rfl ?_; simp only [go_sem, wc, wm, wk, wn, wt, hmz, hq, hr, r1', r2', w1, w2])); refine call_pure (n1) rfl ?_; simp only [go_sem, wc, wm, wk, wn, wt, hmz, hq, hr, r1', r2', w1, w2]; (repeat (refine regA_by 0 rfl ?_; simp only [go_sem, wc, wm, wk, wn, wt, hmz, hq, hr, r1', r2', w1, w2])); refine call_pure (o1) rfl ?_; simp only [go_sem, wc, wm, wk, wn, wt, hmz, hq, hr, r1', r2', w1, w2]; (repeat (refine regA_by 0 rfl ?_; simp only [go_sem, wc, wm, wk, wn, wt, hmz, hq, hr, r1', r2', w1, w2])); refine call_pure (of1) rfl ?_; simp only [go_sem, wc, wm, wk, wn, wt, hmz, hq, hr, r1', r2', w1, w2]; (repeat (refine regA_by 0 rfl ?_; simp only [go_sem, wc, wm, wk, wn, wt, hmz, hq, hr, r1', r2', w1, w2])); refine call_pure (on) rfl ?_; simp only [go_sem, wc, wm, wk, wn, wt, hmz, hq, hr, r1', r2', w1, w2]; (repeat (refine regA_by 0 rfl ?_; simp only [go_sem, wc, wm, wk, wn, wt, hmz, hq, hr, r1', r2', w1, w2])); refine call_pure (sc) rfl ?_; simp only [go_sem, wc, wm, wk, wn, wt, hmz, hq, hr, r1', r2', w1, w2]; (repeat (refine regA_by 0 rfl ?_; simp only [go_sem, wc, wm, wk, wn, wt, hmz, hq, hr, r1', r2', w1, w2])); refine call_pure (n2) rfl ?_; simp only [go_sem, wc, wm, wk, wn, wt, hmz, hq, hr, r1', r2', w1, w2]; (repeat (refine regA_by 0 rfl ?_; simp only [go_sem, wc, wm, wk, wn, wt, hmz, hq, hr, r1', r2', w1, w2])); refine call_pure (on) rfl ?_; simp only [go_sem, wc, wm, wk, wn, wt, hmz, hq, hr, r1', r2', w1, w2]; (repeat (refine regA_by 0 rfl ?_; simp only [go_sem, wc, wm, wk, wn, wt, hmz, hq, hr, r1', r2', w1, w2])); refine call_pure (of2) rfl ?_; simp only [go_sem, wc, wm, wk, wn, wt, hmz, hq, hr, r1', r2', w1, w2]; (repeat (refine regA_by 0 rfl ?_; simp only [go_sem, wc, wm, wk, wn, wt, hmz, hq, hr, r1', r2', w1, w2])); refine call_pure (Q1) rfl ?_; simp only [go_sem, wc, wm, wk, wn, wt, hmz, hq, hr, r1', r2', w1, w2]; (repeat (refine regA_by 0 rfl ?_; simp only [go_sem, wc, wm, wk, wn, wt, hmz, hq, hr, r1', r2', w1, w2])); refine call_pure (Q2) rfl ?_; simp only [go_sem, wc, wm, wk, wn, wt, hmz, hq, hr, r1', r2', w1, w2]; (repeat (refine regA_by 0 rfl ?_; simp only [go_sem, wc, wm, wk, wn, wt, hmz, hq, hr, r1', r2', w1, w2])))
    · have r2' : (0 < r) = False := eq_false r2
      rw [if_neg r2] at n2
      have of2 := ofq q (by omega)
      have Q2 := q2 q (by omega)
      refine pcall_of_wpA mixed Try.call12 Try.func12 rfl Try.ntmps12 Try.results12 (by simp) (by decide) ?_
      simp only [go_sem]
      ((repeat (refine regA_by 0 rfl ?_; simp only [go_sem, wc, wm, wk, wn, wt, hmz, hq, hr, r1', r2', w2])); refine call_pure (hk) rfl ?_; simp only [go_sem, wc, wm, wk, wn, wt, hmz, hq, hr, r1', r2', w2]; (repeat (refine regA_by 0 rfl ?_; simp only [go_sem, wc, wm, wk, wn, wt, hmz, hq, hr, r1', r2', w2])); refine call_pure (om) rfl ?_; simp only [go_sem, wc, wm, wk, wn, wt, hmz, hq, hr, r1', r2', w2]; (repeat (refine regA_by 0 rfl ?_; simp only [go_sem, wc, wm, wk, wn, wt, hmz, hq, hr, r1', r2', w2])); refine call_pure (ok) rfl ?_; simp only [go_sem, wc, wm, wk, wn, wt, hmz, hq, hr, r1', r2', w2]; (repeat (refine regA_by 0 rfl ?_; simp only [go_sem, wc, wm, wk, wn, wt, hmz, hq, hr, r1', r2', w2])); refine call_pure (n1) rfl ?_; simp only [go_sem, wc, wm, wk, wn, wt, hmz, hq, hr, r1', r2', w2]; (repeat (refine regA_by 0 rfl ?_; simp only [go_sem, wc, wm, wk, wn, wt, hmz, hq, hr, r1', r2', w2])); refine call_pure (o1) rfl ?_; simp only [go_sem, wc, wm, wk, wn, wt, hmz, hq, hr, r1', r2', w2]; (repeat (refine regA_by 0 rfl ?_; simp only [go_sem, wc, wm, wk, wn, wt, hmz, hq, hr, r1', r2', w2])); refine call_pure (of1) rfl ?_; simp only [go_sem, wc, wm, wk, wn, wt, hmz, hq, hr, r1', r2', w2]; (repeat (refine regA_by 0 rfl ?_; simp only [go_sem, wc, wm, wk, wn, wt, hmz, hq, hr, r1', r2', w2])); refine call_pure (on) rfl ?_; simp only [go_sem, wc, wm, wk, wn, wt, hmz, hq, hr, r1', r2', w2]; (repeat (refine regA_by 0 rfl ?_; simp only [go_sem, wc, wm, wk, wn, wt, hmz, hq, hr, r1', r2', w2])); refine call_pure (sc) rfl ?_; simp only [go_sem, wc, wm, wk, wn, wt, hmz, hq, hr, r1', r2', w2]; (repeat (refine regA_by 0 rfl ?_; simp only [go_sem, wc, wm, wk, wn, wt, hmz, hq, hr, r1', r2', w2])); refine call_pure (n2) rfl ?_; simp only [go_sem, wc, wm, wk, wn, wt, hmz, hq, hr, r1', r2', w2]; (repeat (refine regA_by 0 rfl ?_; simp only [go_sem, wc, wm, wk, wn, wt, hmz, hq, hr, r1', r2', w2])); refine call_pure (on) rfl ?_; simp only [go_sem, wc, wm, wk, wn, wt, hmz, hq, hr, r1', r2', w2]; (repeat (refine regA_by 0 rfl ?_; simp only [go_sem, wc, wm, wk, wn, wt, hmz, hq, hr, r1', r2', w2])); refine call_pure (of2) rfl ?_; simp only [go_sem, wc, wm, wk, wn, wt, hmz, hq, hr, r1', r2', w2]; (repeat (refine regA_by 0 rfl ?_; simp only [go_sem, wc, wm, wk, wn, wt, hmz, hq, hr, r1', r2', w2])); refine call_pure (Q1) rfl ?_; simp only [go_sem, wc, wm, wk, wn, wt, hmz, hq, hr, r1', r2', w2]; (repeat (refine regA_by 0 rfl ?_; simp only [go_sem, wc, wm, wk, wn, wt, hmz, hq, hr, r1', r2', w2])); refine call_pure (Q2) rfl ?_; simp only [go_sem, wc, wm, wk, wn, wt, hmz, hq, hr, r1', r2', w2]; (repeat (refine regA_by 0 rfl ?_; simp only [go_sem, wc, wm, wk, wn, wt, hmz, hq, hr, r1', r2', w2])))
end Go.Proofs.Ytpnmoecjhannnaa
namespace Go.Proofs.Ytpnmoecjhannnaa
open Go Go.Abs Go.ChangeShapes Go.WideShapes Go.ChangeAt Go.RowKit
set_option maxRecDepth 100000
theorem belowRounds_lifted (os : Os) (started : os.Started) (H : Type) (enc : TypeId × Value → H) :
    ReturnsInHanded {} Try.checked os 12 .any (Rows.belowRoundsSpec.pre6 enc Try.prog Try.f12 Rows.belowRoundsRow.domain false) (Rows.belowRoundsSpec.post enc Try.prog Try.f12 false true false false) := by
  refine returnsInHanded_of_change (C := Try.checked) Try.ownK started (by kernel_rfl) Try.func12
    (ChangeSpec.witness6 (enc := enc) (C := Try.checked) false ⟨#[], #[.int .u8 0, .int .i16 0], []⟩ 8 (by kernel_rfl) (by kernel_rfl) (by kernel_rfl) (by kernel_rfl)) ?_
  intro W base args ds gs before hval hW _ _
  refine row_of_pcall (S := plainS) (tb := 4) plain_ok Try.laidOut (by intro t ht; revert t; decide +kernel) rfl Try.underlying4 rfl (fun ds h => ?_) (fun tvs h => ?_) hval hW
  · match ds, h with
    | [d0, d1], _ => rfl
  · obtain ⟨x0, _, rfl, h0, h⟩ := wtvs_cons h
    obtain ⟨x1, _, rfl, h1, h⟩ := wtvs_cons h
    obtain rfl := wtvs_nil h
    obtain ⟨n0, rfl, k0⟩ := wtv_int Try.underlying5 h0
    have k0 := wf_u8 k0
    obtain ⟨n1, rfl, k1⟩ := wtv_int Try.underlying22 h1
    have k1 := wf_i16 k1
    exact p_BelowRounds n0 k0.1 k0.2 n1 k1.1 k1.2

theorem belowRounds_holds : Rows.BelowRoundsSaid :=
  OpenClaim.holds_of_wide 12 Try.f12 rfl rfl rfl rfl rfl rfl rfl ⟨rfl, rfl, rfl, rfl, rfl⟩ rfl rfl rfl rfl rfl (by kernel_rfl) Try.func12 (by kernel_rfl)
    (of_decide_eq_true (by kernel_rfl)) (by unfold Func.isWrapper; first | (rw [if_pos (by decide +kernel)]; kernel_rfl) | (rw [if_neg (by decide +kernel)]; exact ⟨rfl, rfl⟩))
    (fun os started H enc _ => belowRounds_lifted os started H enc)
end Go.Proofs.Ytpnmoecjhannnaa
