/- At every input the call answers true and leaves its arguments as they were; no conditions. -/
import Derived.Test.YtjmbhknhiakkpaaQb
set_option linter.unusedSimpArgs false
set_option linter.unusedVariables false
namespace Go.Proofs.Ytjmbhknhiakkpaa
open Go Go.Abs
set_option maxHeartbeats 4000000
theorem q_Held_e (x : Rat) (hx : lQ x < 4000000000) : PCall Try.prog 77 [eQ x] (eQ x) := by
  have nx := lQ_num x
  have dx := lQ_den x
  have := q_Held (decide (x.num < 0)) (dig x.num.natAbs) (dig x.den) (by unfold lN at nx; omega) (by rw [lN_nat'] at dx; omega)
  rwa [qv_eQ] at this
theorem q_Is_e (x : Rat) (hx : lQ x < 4000000000) : PCall Try.prog 95 [eQ x] (tB true) := by
  have nx := lQ_num x
  have dx := lQ_den x
  exact tB_of (q_Is (decide (x.num < 0)) (dig x.num.natAbs) (dig x.den) (by unfold lN at nx; omega) (by rw [lN_nat'] at dx; omega)) (IsQ_eQ x)
theorem q_Rat_e (x : Rat) : PCall Try.prog 82 [eQ x] (eQ x) := q_Rat _ _ _
set_option maxRecDepth 100000 in
theorem q_Of (s : Bool) (a : List Nat) (t : Bool) (b : List Nat) (ha : a.length < 4000000000) (hb : b.length < 4000000000) : PCall Try.prog 59 [gI s a, gI t b] (eQ (Rat.divInt (iv s a) (iv t b))) := by
  refine pcall_of_wpA mixed Try.call59 Try.func59 rfl Try.ntmps59 Try.results59 (by simp) (by decide) ?_
  have hs := w_Sign t b (by omega)
  have hA := w_Abs t b (by omega)
  have hN := w_Neg s a (by omega)
  have h0 := w_Add_0 s a (by omega)
  have l1 := lN_iv s a
  have l2 := lN_iv t b
  generalize iv s a = p at *
  generalize iv t b = q at *
  simp only [go_sem]
  refine call_pure hs rfl ?_
  have e0 : ∀ m : Nat, eI (m : Int) = gI false (dig m) := fun m => by unfold eI; rw [decide_eq_false (by omega)]; rfl
  rw [e0] at hA
  by_cases hq : q = 0
  · have e : (0 : Int).sign = 0 := rfl
    subst hq
    rw [Rat.divInt_zero]
    have r0 := q_Rat_e 0
    simp only [go_sem, e]
    (repeat (first | (refine regA_by 0 rfl ?_; simp only [go_sem]) | (refine call_pure (q_whole1_0) rfl ?_; simp only [go_sem]) | (refine call_pure (r0) rfl ?_; simp only [go_sem])))
    exact fz_agg3 .t .t .t
  · have hne := sign_ne hq
    have hqn : q.natAbs ≠ 0 := by omega
    have r0 := q_Rat_e (Rat.divInt p q)
    simp only [go_sem, hne]
    refine call_pure hs rfl ?_
    by_cases hn : q < 0
    · have hs1 : q.sign = -1 := Int.sign_eq_neg_one_of_neg hn
      have h3 := w_Add_0 (decide (-p < 0)) (dig (-p).natAbs) (by have := lN_neg p; unfold lN at this l1; omega)
      rw [iv_eI] at h3
      have sh := q_short (-p) q.natAbs hqn (by rw [lN_neg]; omega) (by rw [lN_abs]; omega)
      rw [← Rat.divInt_ofNat, show ((q.natAbs : Nat) : Int) = -q by omega, Rat.neg_divInt_neg] at sh
      simp only [go_sem, hs1]
      refine call_pure hN rfl ?_
      simp only [go_sem]
      (repeat (first | (refine regA_by 0 rfl ?_; simp only [go_sem]) | (refine call_pure (h3) rfl ?_; simp only [go_sem]) | (refine call_pure (hA) rfl ?_; simp only [go_sem]) | (refine call_pure (sh) rfl ?_; simp only [go_sem]) | (refine call_pure (r0) rfl ?_; simp only [go_sem])))
      exact fz_agg3 .t .t .t
    · have hs1 : q.sign = 1 := Int.sign_eq_one_of_pos (by omega)
      have sh := q_short p q.natAbs hqn (by omega) (by rw [lN_abs]; omega)
      rw [← Rat.divInt_ofNat, show ((q.natAbs : Nat) : Int) = q by omega] at sh
      simp only [go_sem, hs1]
      (repeat (first | (refine regA_by 0 rfl ?_; simp only [go_sem]) | (refine call_pure (h0) rfl ?_; simp only [go_sem]) | (refine call_pure (hA) rfl ?_; simp only [go_sem]) | (refine call_pure (sh) rfl ?_; simp only [go_sem]) | (refine call_pure (r0) rfl ?_; simp only [go_sem])))
      exact fz_agg3 .t .t .t
theorem q_Of_e (p q : Int) (ha : lN p < 4000000000) (hb : lN q < 4000000000) : PCall Try.prog 59 [eI p, eI q] (eQ (Rat.divInt p q)) := by
  have := q_Of (decide (p < 0)) (dig p.natAbs) (decide (q < 0)) (dig q.natAbs) ha hb; rwa [iv_eI, iv_eI] at this
theorem q_Of_0 (p : Int) (ha : lN p < 4000000000) : PCall Try.prog 59 [eI p, gI0] (eQ 0) := by
  have := q_Of (decide (p < 0)) (dig p.natAbs) false [] ha (by simp)
  rw [show iv false [] = 0 by decide, Rat.divInt_zero] at this
  exact this.fz (.cons (fz_agg2 .t .t) (.cons (fz_agg2 .t .weak) .nil))
end Go.Proofs.Ytjmbhknhiakkpaa
namespace Go.Proofs.Ytjmbhknhiakkpaa
open Go Go.Abs
set_option maxHeartbeats 4000000
end Go.Proofs.Ytjmbhknhiakkpaa
