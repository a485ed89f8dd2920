/- At every input the call answers true and leaves its arguments as they were; no conditions. -/
import Derived.Test.YtgnfgaioeldagaaGreatNc
set_option linter.unusedSimpArgs false
set_option linter.unusedVariables false
namespace Go.Proofs.YtgnfgaioeldagaaGreat
open Go Go.Abs
set_option maxHeartbeats 1000000
/-- An integer as it lies in memory. -/
abbrev gI (neg : Bool) (mag : List Nat) : TV := .agg [.lit (.bool neg), eN mag]
abbrev gS (l : List Nat) (neg : Bool) : TV := .agg [eN l, .lit (.bool neg)]
abbrev gZ (l : List Nat) : TV := .agg [eN l]
def IsI (neg : Bool) (mag : List Nat) : Prop := IsN mag ∧ (mag ≠ [] ∨ neg = false)
instance {neg : Bool} {mag : List Nat} : Decidable (IsI neg mag) := by unfold IsI; exact inferInstance

theorem fz_agg2 {H : Heap} {a b : C} {x y : T} (h1 : FzC H a x) (h2 : FzC H b y) : FzA H (.agg [a, b]) (.agg [x, y]) := .agg rfl fun j h h' => by
  match j, h, h' with
  | 0, _, _ => exact h1
  | 1, _, _ => exact h2
  | j + 2, h, _ => simp at h; omega
set_option maxRecDepth 100000 in
theorem w_none (l : List Nat) : PCall Tryz.prog 134 [gZ l] (tB (decide (l.length = 0))) := by
  refine pcall_of_wpA mixed Tryz.call134 Tryz.func134 rfl Tryz.ntmps134 Tryz.results134 (by simp) (by decide) ?_
  simp only [go_sem]
  rw [decide_eq_decide]; omega

set_option maxRecDepth 100000 in
theorem w_Is (neg : Bool) (mag : List Nat) (hl : mag.length < 30000000000000) : PCall Tryz.prog 82 [gI neg mag] (tB (decide (IsI neg mag))) := by
  refine pcall_of_wpA mixed Tryz.call82 Tryz.func82 rfl Tryz.ntmps82 Tryz.results82 (by simp) (by decide) ?_
  simp only [go_sem]
  refine call_pure (p_nat_Is mag hl) rfl ?_
  by_cases h : IsN mag
  · cases mag with
    | nil =>
      cases neg
      · simp only [go_sem, h]
        simp [IsI, h]
      · simp only [go_sem, h]
        simp [IsI]
    | cons x l =>
      have hp : (0 : Int) < (l.length : Int) + 1 := by omega
      simp only [go_sem, h, hp]
      simp [IsI, h]
  · simp only [go_sem, h]
    simp [IsI, h]

set_option maxRecDepth 100000 in
theorem w_of (neg : Bool) (mag : List Nat) (hl : mag.length < 30000000000000) : PCall Tryz.prog 111 [gI neg mag] (if IsI neg mag then gS mag neg else gS [] false) := by
  refine pcall_of_wpA mixed Tryz.call111 Tryz.func111 rfl Tryz.ntmps111 Tryz.results111 (by simp) (by decide) ?_
  simp only [go_sem]
  refine call_pure (w_Is neg mag hl) rfl ?_
  by_cases h : IsI neg mag
  · rw [if_pos h]
    simp only [go_sem, h]
    exact fz_agg2 .t .t
  · rw [if_neg h]
    simp only [go_sem, h]
    exact fz_agg2 .weak .t

set_option maxRecDepth 100000 in
theorem w_whole (l : List Nat) (neg : Bool) : PCall Tryz.prog 121 [gS l neg] (gI (neg && decide (l ≠ [])) l) := by
  refine pcall_of_wpA mixed Tryz.call121 Tryz.func121 rfl Tryz.ntmps121 Tryz.results121 (by simp) (by decide) ?_
  simp only [go_sem]
  refine regA_by 0 rfl ?_
  cases neg with
  | false =>
    simp only [go_sem]
    exact fz_agg2 .t .t
  | true =>
    simp only [go_sem]
    refine call_pure (w_none l) rfl ?_
    have e : (!decide (l.length = 0)) = decide (¬ l = []) := by cases l <;> simp
    simp only [go_sem, e]
    exact fz_agg2 .t .t

set_option maxRecDepth 100000 in
theorem w_Of (n : Int) (h1 : -9223372036854775808 ≤ n) (h2 : n < 9223372036854775808) : PCall Tryz.prog 87 [tI .i64 n] (gI (decide (n < 0)) (dig n.natAbs)) := by
  refine pcall_of_wpA mixed Tryz.call87 Tryz.func87 rfl Tryz.ntmps87 Tryz.results87 (by simp) (by decide) ?_
  simp only [go_sem]
  have hab : n.natAbs < 18446744073709551616 := by omega
  have hof := p_nat_Of n.natAbs hab
  have hdn : (dig n.natAbs = []) ↔ n = 0 := by rw [dig_eq_nil]; omega
  refine CondR_if (fun hn => ?_) (fun hn => ?_)
  · have hw : IntKind.wrap .u64 (0 - IntKind.wrap .u64 n) = (n.natAbs : Int) := by
      unfold IntKind.wrap; simp [IntKind.signed, IntKind.bits]; omega
    have hwh := w_whole (dig n.natAbs) true
    rw [show (true && decide (dig n.natAbs ≠ [])) = true by simp [hdn]; omega] at hwh
    simp only [go_sem, hn, hw]
    refine call_pure hof rfl ?_
    simp only [go_sem, hn, hw]
    refine call_pure hwh rfl ?_
    simp only [go_sem, hn]
    exact fz_agg2 .t .t
  · have hw : IntKind.wrap .u64 n = (n.natAbs : Int) := by rw [wrap_u64 (by omega) (by omega)]; omega
    have hwh := w_whole (dig n.natAbs) false
    rw [show (false && decide (dig n.natAbs ≠ [])) = false from rfl] at hwh
    simp only [go_sem, hn, hw]
    refine call_pure hof rfl ?_
    simp only [go_sem, hn, hw]
    refine call_pure hwh rfl ?_
    simp only [go_sem, hn]
    exact fz_agg2 .t .t
end Go.Proofs.YtgnfgaioeldagaaGreat
namespace Go.Proofs.YtgnfgaioeldagaaGreat
open Go Go.Abs
set_option maxHeartbeats 1000000
/-- What an integer in memory is worth: 0 what isn't one. -/
def iv (neg : Bool) (mag : List Nat) : Int := if IsI neg mag then (if neg then -(val mag : Int) else val mag) else 0
theorem iv_sign {neg : Bool} {mag : List Nat} (h : IsI neg mag) : (iv neg mag).sign = if mag.length = 0 then 0 else if neg then -1 else 1 := by
  unfold iv
  rw [if_pos h]
  by_cases h0 : mag.length = 0
  · have : mag = [] := List.length_eq_zero_iff.1 h0
    subst this
    cases neg <;> simp [val]
  · rw [if_neg h0]
    have hp : 0 < val mag := Nat.pos_of_ne_zero fun e => h0 (by rw [(val_eq_zero h.1).1 e]; rfl)
    cases neg
    · have : (val mag : Int).sign = 1 := Int.sign_eq_one_of_pos (by omega)
      simpa using this
    · have : (val mag : Int).sign = 1 := Int.sign_eq_one_of_pos (by omega)
      simp [this]

set_option maxRecDepth 100000 in
theorem w_Sign (neg : Bool) (mag : List Nat) (hl : mag.length < 30000000000000) : PCall Tryz.prog 99 [gI neg mag] (tI .i64 (iv neg mag).sign) := by
  refine pcall_of_wpA mixed Tryz.call99 Tryz.func99 rfl Tryz.ntmps99 Tryz.results99 (by simp) (by decide) ?_
  simp only [go_sem]
  have hof := w_of neg mag hl
  by_cases h : IsI neg mag
  · rw [if_pos h] at hof
    rw [iv_sign h]
    refine call_pure hof rfl ?_
    simp only [go_sem]
    refine call_pure (w_none mag) rfl ?_
    by_cases h0 : mag.length = 0
    · simp only [go_sem, h0]
    · simp only [go_sem, h0]
      cases neg
      · simp only [go_sem]
      · simp only [go_sem]
  · rw [if_neg h] at hof
    have e : iv neg mag = 0 := if_neg h
    rw [e]
    refine call_pure hof rfl ?_
    simp only [go_sem]
    refine call_pure (w_none []) rfl ?_
    simp only [go_sem]
    rfl

theorem iv_held {neg : Bool} {mag : List Nat} (h : IsI neg mag) : vN mag = val mag := by unfold vN; rw [held, if_pos h.1]
theorem cmpI_nat {a b : Int} {m n : Nat} (h1 : a = m) (h2 : b = n) : cmpI a b = cmpI m n := by rw [h1, h2]

end Go.Proofs.YtgnfgaioeldagaaGreat
namespace Go.Proofs.YtgnfgaioeldagaaGreat
open Go Go.Abs
set_option maxHeartbeats 1000000
theorem sign3 (x : Int) : (x < 0 ∧ x.sign = -1) ∨ (x = 0 ∧ x.sign = 0) ∨ (0 < x ∧ x.sign = 1) := by
  rcases Int.lt_trichotomy x 0 with h | h | h
  · exact .inl ⟨h, Int.sign_eq_neg_one_of_neg h⟩
  · subst h; exact .inr (.inl ⟨rfl, rfl⟩)
  · exact .inr (.inr ⟨h, Int.sign_eq_one_of_pos h⟩)
theorem iv_neg {s : Bool} {a : List Nat} (h : iv s a < 0) : iv s a = -(vN a : Int) ∧ IsI s a := by
  by_cases hI : IsI s a
  · rw [iv_held hI]; unfold iv at h ⊢
    rw [if_pos hI] at h ⊢
    cases s
    · simp at h; omega
    · exact ⟨rfl, hI⟩
  · unfold iv at h; rw [if_neg hI] at h; omega
theorem iv_nonneg {s : Bool} {a : List Nat} (h : 0 ≤ iv s a) : ∃ l, (if IsI s a then gS a s else gS [] false) = gS l (if IsI s a then s else false) ∧ l.length ≤ a.length ∧ iv s a = (vN l : Int) := by
  by_cases hI : IsI s a
  · refine ⟨a, by rw [if_pos hI, if_pos hI], Nat.le_refl _, ?_⟩
    rw [iv_held hI]
    unfold iv at h ⊢
    rw [if_pos hI] at h ⊢
    cases s
    · rfl
    · simp at h ⊢; omega
  · refine ⟨[], by rw [if_neg hI, if_neg hI], Nat.zero_le _, ?_⟩
    unfold iv; rw [if_neg hI]; rfl

set_option maxRecDepth 100000 in
theorem w_Cmp (s : Bool) (a : List Nat) (t : Bool) (b : List Nat) (ha : a.length < 30000000000000) (hb : b.length < 30000000000000) : PCall Tryz.prog 131 [gI s a, gI t b] (tI .i64 (cmpI (iv s a) (iv t b))) := by
  refine pcall_of_wpA mixed Tryz.call131 Tryz.func131 rfl Tryz.ntmps131 Tryz.results131 (by simp) (by decide) ?_
  simp only [go_sem]
  refine regA_by 0 rfl ?_
  simp only [go_sem]
  refine call_pure (w_Sign s a ha) rfl ?_
  simp only [go_sem]
  refine call_pure (w_Sign t b hb) rfl ?_
  simp only [go_sem]
  have h1 := sign3 (iv s a)
  have h2 := sign3 (iv t b)
  have hoa := w_of s a ha
  have hob := w_of t b hb
  have gn := @iv_neg s a
  have gn2 := @iv_neg t b
  have gp := @iv_nonneg s a
  have gp2 := @iv_nonneg t b
  generalize iv s a = x at *
  generalize iv t b = y at *
  generalize x.sign = sx at *
  generalize y.sign = sy at *
  refine CondR_if (fun hne => ?_) (fun heq => ?_)
  · ((try simp only [go_sem]); (try simp (disch := omega) only [wrap_i64, wrap_u64, wrap_u32, elemD_lt]); (try simp only [go_sem]); (try simp (disch := omega) only [wrap_i64, wrap_u64, wrap_u32, elemD_lt]); (try simp only [go_sem]))
    skip
    try simp only [go_sem]
    refine opA_max rfl (by simp only [go_sem] <;> rfl) (by simp only [go_sem] <;> rfl) (Nat.le_refl _) ?_
    simp only [go_sem]
    unfold cmpI
    repeat' split
    all_goals omega
  · have heq' : sx = sy := by omega
    subst heq'
    simp only [go_sem]
    refine CondR_if (fun hlt => ?_) (fun hge => ?_)
    · have hx := (gn (by omega)).1
      have hy := (gn2 (by omega)).1
      simp only [go_sem]
      refine call_pure (p_nat_Cmp b a hb ha) rfl ?_
      simp only [go_sem]
      unfold cmpI
      repeat' split
      all_goals omega
    · obtain ⟨l, e1, e2, e3⟩ := gp (by omega)
      obtain ⟨l', f1, f2, f3⟩ := gp2 (by omega)
      rw [e1] at hoa
      rw [f1] at hob
      simp only [go_sem]
      refine regA_by 0 rfl ?_
      simp only [go_sem]
      refine call_pure hoa rfl ?_
      simp only [go_sem]
      refine call_pure hob rfl ?_
      simp only [go_sem]
      refine call_pure (p_nat_Cmp l l' (by omega) (by omega)) rfl ?_
      simp only [go_sem]
      rw [e3, f3]

end Go.Proofs.YtgnfgaioeldagaaGreat
namespace Go.Proofs.YtgnfgaioeldagaaGreat
open Go Go.Abs
set_option maxHeartbeats 1000000
/-- An integer, as the program tells it. -/
abbrev eI (z : Int) : TV := gI (decide (z < 0)) (dig z.natAbs)
abbrev sI (z : Int) : TV := gS (dig z.natAbs) (decide (z < 0))
theorem iv_len (s : Bool) (a : List Nat) : (dig (iv s a).natAbs).length ≤ a.length := by
  unfold iv; split
  · rename_i h
    have : dig (if s = true then -(val a : Int) else (val a : Int)).natAbs = a := by
      rw [show (if s = true then -(val a : Int) else (val a : Int)).natAbs = val a by cases s <;> simp]; exact h.1.trimZ
    rw [this]; exact Nat.le_refl _
  · simp [dig_zero]
theorem w_of' (s : Bool) (a : List Nat) (hl : a.length < 30000000000000) : PCall Tryz.prog 111 [gI s a] (sI (iv s a)) := by
  have h := w_of s a hl
  have e : (if IsI s a then gS a s else gS [] false) = sI (iv s a) := by
    unfold iv
    by_cases hI : IsI s a
    · rw [if_pos hI, if_pos hI]
      have e1 : (if s = true then -(val a : Int) else (val a : Int)).natAbs = val a := by cases s <;> simp
      have e2 : decide ((if s = true then -(val a : Int) else (val a : Int)) < 0) = s := by
        cases s
        · simp
        · have : a ≠ [] := by rcases hI.2 with h | h; exact h; cases h
          have : 0 < val a := Nat.pos_of_ne_zero fun e => this ((val_eq_zero hI.1).1 e)
          simp; omega
      unfold sI
      rw [e1, e2, hI.1.trimZ]
    · rw [if_neg hI, if_neg hI]
      simp [sI, dig_zero]
  rw [← e]; exact h

set_option maxRecDepth 100000 in
theorem w_copied (l : List Nat) (hl : l.length < 10000000000000) : PCall Tryz.prog 143 [tN l] (gZ l) := by
  refine pcall_of_wpA mixed Tryz.call143 Tryz.func143 rfl Tryz.ntmps143 Tryz.results143 (by simp) (by decide) ?_
  simp only [go_sem]
  refine call_pure (p_Clone l hl) rfl ?_
  simp only [go_sem]
  exact .agg rfl fun j h h' => by
    match j, h, h' with
    | 0, _, _ => exact .t
    | j + 1, h, _ => simp at h

set_option maxRecDepth 100000 in
theorem w_Neg (s : Bool) (a : List Nat) (hl : a.length < 10000000000000) : PCall Tryz.prog 123 [gI s a] (eI (-(iv s a))) := by
  refine pcall_of_wpA mixed Tryz.call123 Tryz.func123 rfl Tryz.ntmps123 Tryz.results123 (by simp) (by decide) ?_
  simp only [go_sem]
  refine call_pure (w_of' s a (by omega)) rfl ?_
  have hlen := iv_len s a
  generalize iv s a = z at *
  have hwh := w_whole (dig z.natAbs) (!decide (z < 0))
  have e : ((!decide (z < 0)) && decide (dig z.natAbs ≠ [])) = decide (-z < 0) := by
    rw [Bool.eq_iff_iff]; simp [dig_eq_nil]; omega
  rw [e] at hwh
  simp only [go_sem]
  refine regA_by 0 rfl ?_
  simp only [go_sem]
  refine call_pure (w_copied _ (by omega)) rfl ?_
  simp only [go_sem]
  refine call_pure hwh rfl ?_
  simp only [go_sem]
  have e3 : eI (-z) = gI (decide (-z < 0)) (dig z.natAbs) := by unfold eI; rw [show (-z).natAbs = z.natAbs by omega]
  rw [e3]
  exact fz_agg2 .t .t

set_option maxRecDepth 100000 in
theorem w_Abs (s : Bool) (a : List Nat) (hl : a.length < 10000000000000) : PCall Tryz.prog 122 [gI s a] (eI ((iv s a).natAbs : Int)) := by
  refine pcall_of_wpA mixed Tryz.call122 Tryz.func122 rfl Tryz.ntmps122 Tryz.results122 (by simp) (by decide) ?_
  simp only [go_sem]
  refine call_pure (w_of' s a (by omega)) rfl ?_
  have hlen := iv_len s a
  generalize iv s a = z at *
  have hwh := w_whole (dig z.natAbs) false
  rw [show (false && decide (dig z.natAbs ≠ [])) = false from rfl] at hwh
  simp only [go_sem]
  refine call_pure (w_copied _ (by omega)) rfl ?_
  simp only [go_sem]
  refine call_pure hwh rfl ?_
  simp only [go_sem]
  have e3 : eI (z.natAbs : Int) = gI false (dig z.natAbs) := by
    unfold eI; rw [show ((z.natAbs : Int)).natAbs = z.natAbs by omega, decide_eq_false (by omega)]
  rw [e3]
  exact fz_agg2 .t .t
end Go.Proofs.YtgnfgaioeldagaaGreat
namespace Go.Proofs.YtgnfgaioeldagaaGreat
open Go Go.Abs
set_option maxHeartbeats 2000000
theorem neg_of {z w : Int} {b : Bool} (h : (b && decide (dig w.natAbs ≠ [])) = decide (z < 0)) (e : z.natAbs = w.natAbs) : gI (b && decide (dig w.natAbs ≠ [])) (dig w.natAbs) = eI z := by
  unfold eI; rw [h, e]

set_option maxRecDepth 100000 in
theorem w_Mul (s : Bool) (a : List Nat) (t : Bool) (b : List Nat) (ha : a.length < 2000000000000) (hb : b.length < 2000000000000) : PCall Tryz.prog 127 [gI s a, gI t b] (eI (iv s a * iv t b)) := by
  refine pcall_of_wpA mixed Tryz.call127 Tryz.func127 rfl Tryz.ntmps127 Tryz.results127 (by simp) (by decide) ?_
  simp only [go_sem]
  refine regA_by 0 rfl ?_
  simp only [go_sem]
  refine call_pure (w_of' s a (by omega)) rfl ?_
  simp only [go_sem]
  refine call_pure (w_of' t b (by omega)) rfl ?_
  have hl1 := iv_len s a
  have hl2 := iv_len t b
  generalize iv s a = x at *
  generalize iv t b = y at *
  have hmul := p_nat_Mul (dig x.natAbs) (dig y.natAbs) (by omega) (by omega)
  rw [vN_dig, vN_dig, ← Int.natAbs_mul] at hmul
  have hwh := w_whole (dig (x * y).natAbs) (decide (x < 0) != decide (y < 0))
  have hsg : ((decide (x < 0) != decide (y < 0)) && decide (dig (x * y).natAbs ≠ [])) = decide (x * y < 0) := by
    rw [Bool.eq_iff_iff]; simp [dig_eq_nil]
    rcases Int.lt_trichotomy x 0 with h | h | h <;> rcases Int.lt_trichotomy y 0 with h' | h' | h' <;> simp_all [Int.mul_neg_of_neg_of_pos, Int.mul_neg_of_pos_of_neg] <;> first | omega | (have := Int.mul_pos_of_neg_of_neg h h'; omega) | (have := Int.mul_pos h h'; omega) | skip
  rw [neg_of hsg rfl] at hwh
  simp only [go_sem]
  refine regA_by 0 rfl ?_
  simp only [go_sem]
  refine call_pure hmul rfl ?_
  simp only [go_sem]
  refine call_pure hwh rfl ?_
  simp only [go_sem]
  exact fz_agg2 .t .t
end Go.Proofs.YtgnfgaioeldagaaGreat
namespace Go.Proofs.YtgnfgaioeldagaaGreat
open Go Go.Abs
set_option maxHeartbeats 4000000
set_option maxRecDepth 100000 in
theorem w_over (a b : List Nat) (ha : a.length < 30000000000000) (hb : b.length < 30000000000000) : PCall Tryz.prog 113 [gZ a, gZ b] (tB (decide (vN b < vN a))) := by
  refine pcall_of_wpA mixed Tryz.call113 Tryz.func113 rfl Tryz.ntmps113 Tryz.results113 (by simp) (by decide) ?_
  simp only [go_sem]
  refine call_pure (p_nat_Cmp a b ha hb) rfl ?_
  simp only [go_sem]
  rw [decide_eq_decide]
  unfold cmpI
  repeat' split
  all_goals omega

set_option maxRecDepth 100000 in
theorem w_Add (s : Bool) (a : List Nat) (t : Bool) (b : List Nat) (ha : a.length < 2000000000000) (hb : b.length < 2000000000000) : PCall Tryz.prog 125 [gI s a, gI t b] (eI (iv s a + iv t b)) := by
  refine pcall_of_wpA mixed Tryz.call125 Tryz.func125 rfl Tryz.ntmps125 Tryz.results125 (by simp) (by decide) ?_
  simp only [go_sem]
  refine regA_by 0 rfl ?_
  simp only [go_sem]
  refine call_pure (w_of' s a (by omega)) rfl ?_
  simp only [go_sem]
  refine call_pure (w_of' t b (by omega)) rfl ?_
  have hl1 := iv_len s a
  have hl2 := iv_len t b
  generalize iv s a = x at *
  generalize iv t b = y at *
  by_cases hsame : (decide (x < 0)) = decide (y < 0)
  · have hadd := p_nat_Add (dig x.natAbs) (dig y.natAbs) (by omega) (by omega)
    rw [vN_dig, vN_dig] at hadd
    have hz : x.natAbs + y.natAbs = (x + y).natAbs := by
      rw [decide_eq_decide] at hsame; omega
    rw [hz] at hadd
    have hwh := w_whole (dig (x + y).natAbs) (decide (x < 0))
    have hsg : (decide (x < 0) && decide (dig (x + y).natAbs ≠ [])) = decide (x + y < 0) := by
      rw [decide_eq_decide] at hsame
      rw [Bool.eq_iff_iff]; simp only [ne_eq, Bool.and_eq_true, decide_eq_true_eq, dig_eq_nil]; omega
    rw [neg_of hsg rfl] at hwh
    have hbq : (decide (x < 0) == decide (y < 0)) = true := by rw [hsame]; simp
    simp only [go_sem, hbq]
    refine regA_by 0 rfl ?_
    simp only [go_sem]
    refine call_pure hadd rfl ?_
    simp only [go_sem]
    refine call_pure hwh rfl ?_
    simp only [go_sem]
    exact fz_agg2 .t .t
  · have hbq : (decide (x < 0) == decide (y < 0)) = false := by simpa using hsame
    rw [decide_eq_decide] at hsame
    have hov := w_over (dig x.natAbs) (dig y.natAbs) (by omega) (by omega)
    rw [vN_dig, vN_dig] at hov
    simp only [go_sem, hbq]
    refine call_pure hov rfl ?_
    by_cases hgt : y.natAbs < x.natAbs
    · have hsub := p_nat_Sub (dig x.natAbs) (dig y.natAbs) (by omega) (by omega)
      rw [vN_dig, vN_dig, show x.natAbs - y.natAbs = (x + y).natAbs by omega] at hsub
      have hwh := w_whole (dig (x + y).natAbs) (decide (x < 0))
      have hsg : (decide (x < 0) && decide (dig (x + y).natAbs ≠ [])) = decide (x + y < 0) := by
        rw [Bool.eq_iff_iff]; simp only [ne_eq, Bool.and_eq_true, decide_eq_true_eq, dig_eq_nil]; omega
      rw [neg_of hsg rfl] at hwh
      simp only [go_sem, hgt]
      refine regA_by 0 rfl ?_
      simp only [go_sem]
      refine call_pure hsub rfl ?_
      simp only [go_sem]
      refine call_pure hwh rfl ?_
      simp only [go_sem]
      exact fz_agg2 .t .t
    · have hsub := p_nat_Sub (dig y.natAbs) (dig x.natAbs) (by omega) (by omega)
      rw [vN_dig, vN_dig, show y.natAbs - x.natAbs = (x + y).natAbs by omega] at hsub
      have hwh := w_whole (dig (x + y).natAbs) (decide (y < 0))
      have hsg : (decide (y < 0) && decide (dig (x + y).natAbs ≠ [])) = decide (x + y < 0) := by
        rw [Bool.eq_iff_iff]; simp only [ne_eq, Bool.and_eq_true, decide_eq_true_eq, dig_eq_nil]; omega
      rw [neg_of hsg rfl] at hwh
      simp only [go_sem, hgt]
      refine regA_by 0 rfl ?_
      simp only [go_sem]
      refine call_pure hsub rfl ?_
      simp only [go_sem]
      refine call_pure hwh rfl ?_
      simp only [go_sem]
      exact fz_agg2 .t .t
end Go.Proofs.YtgnfgaioeldagaaGreat
namespace Go.Proofs.YtgnfgaioeldagaaGreat
open Go Go.Abs
set_option maxHeartbeats 4000000
theorem IsI_eI (z : Int) : IsI (decide (z < 0)) (dig z.natAbs) := by
  refine ⟨IsN_dig _, ?_⟩
  by_cases h : z < 0
  · left; intro e; rw [dig_eq_nil] at e; omega
  · right; simp [h]
theorem iv_eI (z : Int) : iv (decide (z < 0)) (dig z.natAbs) = z := by
  unfold iv
  rw [if_pos (IsI_eI z), val_dig]
  by_cases h : z < 0
  · rw [if_pos (by simp [h])]; omega
  · rw [if_neg (by simp [h])]; omega

set_option maxRecDepth 100000 in
theorem w_Sub (s : Bool) (a : List Nat) (t : Bool) (b : List Nat) (ha : a.length < 2000000000000) (hb : b.length < 2000000000000) : PCall Tryz.prog 126 [gI s a, gI t b] (eI (iv s a - iv t b)) := by
  refine pcall_of_wpA mixed Tryz.call126 Tryz.func126 rfl Tryz.ntmps126 Tryz.results126 (by simp) (by decide) ?_
  simp only [go_sem]
  refine call_pure (w_of' t b (by omega)) rfl ?_
  have hl2 := iv_len t b
  generalize iv t b = y at *
  have hwh := w_whole (dig y.natAbs) (!decide (y < 0))
  have hsg : ((!decide (y < 0)) && decide (dig y.natAbs ≠ [])) = decide (-y < 0) := by
    rw [Bool.eq_iff_iff]; simp [dig_eq_nil]; omega
  rw [neg_of hsg (by omega)] at hwh
  have hadd := w_Add s a (decide (-y < 0)) (dig (-y).natAbs) ha (by rw [show (-y).natAbs = y.natAbs by omega]; omega)
  rw [iv_eI, ← Int.sub_eq_add_neg] at hadd
  simp only [go_sem]
  refine regA_by 0 rfl ?_
  simp only [go_sem]
  refine call_pure hwh rfl ?_
  simp only [go_sem]
  refine call_pure hadd rfl ?_
  simp only [go_sem]
  exact fz_agg2 .t .t
end Go.Proofs.YtgnfgaioeldagaaGreat
