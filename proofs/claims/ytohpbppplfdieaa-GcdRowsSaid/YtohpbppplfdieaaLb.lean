/- At every input the call answers true and leaves its arguments as they were; no conditions. -/
import Derived.Test.YtohpbppplfdieaaLa
set_option linter.unusedSimpArgs false
set_option linter.unusedVariables false
namespace Go.Proofs.Ytohpbppplfdieaa
open Go Go.Abs
set_option maxHeartbeats 4000000
theorem cmpI_le {x y : Int} (h : x ≤ y) : cmpI x y ≤ 0 := by unfold cmpI; repeat' split
                                                             all_goals omega
theorem cmpI_lt {x y : Int} (h : x < y) : cmpI x y = -1 := by unfold cmpI; rw [if_pos h]
theorem cmpI_gt {x y : Int} (h : y < x) : cmpI x y = 1 := by unfold cmpI; rw [if_neg (by omega), if_pos h]
theorem cmpI_eq {x y : Int} (h : x = y) : cmpI x y = 0 := by unfold cmpI; rw [if_neg (by omega), if_neg (by omega)]
theorem i_Is_e (x : Int) (hl : lN x < 1099511627776) : PCall Try.prog 23 [eI x] (tB true) := tB_of (i_Is (decide (x < 0)) (dig x.natAbs) hl) (IsI_eI x)
theorem sign_range (x : Int) : -9223372036854775808 ≤ x.sign ∧ x.sign < 9223372036854775808 := by
  rcases sign3 x with ⟨h, e⟩ | ⟨h, e⟩ | ⟨h, e⟩ <;> rw [e] <;> omega
theorem i_OfSign (x : Int) : PCall Try.prog 28 [tI .i64 x.sign] (eI x.sign) := i_Of _ (sign_range x).1 (sign_range x).2

theorem lN_lcm (x y : Int) : lN (Int.lcm x y : Int) ≤ lN x + lN y := by
  refine Nat.le_trans (lN_le (y := x * y) ?_) (lN_mul x y)
  rw [Int.natAbs_natCast, Int.natAbs_mul]
  exact Nat.div_le_self _ _
theorem sign_zero {x : Int} : x.sign = 0 ↔ x = 0 := Int.sign_eq_zero_iff_zero
theorem iv_is {s : Bool} {a : List Nat} (h : iv s a ≠ 0) : IsI s a := by
  by_cases hI : IsI s a
  · exact hI
  · exact absurd (if_neg hI) h

theorem few4_e (x : Int) (h : lN x ≤ 6) : PCall Try.prog 16 [eI x] (tB true) := tB_of (few4 (decide (x < 0)) (dig x.natAbs)) h

theorem _root_.Go.Abs.RC.weakS {w : World} {ok : Nat → Prop} {ρ : Nat → Option Nat} {nl : Option Bool} {xs : List (List T)} {v : Value} (h : RC w ok ρ (.t (.seq nl xs)) v) : RC w ok ρ (.t (.seq none xs)) v := by
  cases h with
  | t h => cases h with
    | seq g1 g2 g0 g3 g4 g5 g6 g7 g8 => exact .t (.seq g1 g2 g0 (fun e => by cases e) (fun e => by cases e) g5 g6 g7 g8)
/-- It may be forgotten whether a cell's slice is nil. -/
theorem gstep_weakH2 {σ : St} (b : Nat) {c0 : C} {nl : Option Bool} {xs : List (List T)} (hb : σ.H b = some [c0, .t (.seq nl xs)]) : Go.Abs.GStep σ (σ.withH (upd σ.H b (some [c0, .t (.seq none xs)]))) := by
  intro ρ ok a w h
  refine ⟨ρ, ok, ⟨⟨fun b' cs' hb' => ?_, fun b' hb' => ?_, h.inj, h.okR⟩, h.size, h.slots, h.defers, h.small⟩, Goes.refl ρ ok w⟩
  · simp only [St.withH, upd] at hb'
    split at hb'
    · rename_i e; subst e; cases hb'
      obtain ⟨c, arr, el, k1, k2, k3, k4⟩ := h.heap _ _ hb
      refine ⟨c, arr, el, k1, k2, k3, fun j hj hj' => ?_⟩
      have hj2 : j < 2 := hj
      have := k4 j hj hj'
      match j, hj2 with
      | 0, _ => exact this
      | 1, _ => exact this.weakS
    · exact h.heap b' cs' hb'
  · simp only [St.withH, upd] at hb'
    split at hb'
    · cases hb'
    · exact h.dom b' hb'
end Go.Proofs.Ytohpbppplfdieaa
