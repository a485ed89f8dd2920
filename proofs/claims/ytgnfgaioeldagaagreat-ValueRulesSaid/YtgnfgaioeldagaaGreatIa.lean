/- At every input the call answers true and leaves its arguments as they were; no conditions. -/
import Derived.Test.YtgnfgaioeldagaaGreatWb
import Derived.Test.YtgnfgaioeldagaaGreatRc
set_option linter.unusedSimpArgs false
set_option linter.unusedVariables false
namespace Go.Proofs.YtgnfgaioeldagaaGreat
open Go Go.Abs
set_option maxHeartbeats 2000000
set_option maxRecDepth 100000 in
theorem i_Is (neg : Bool) (mag : List Nat) (hl : mag.length < 30000000000000) : PCall Tryz.prog 85 [gI neg mag] (tB (decide (IsI neg mag))) := by
  refine pcall_of_wpA mixed Tryz.call85 Tryz.func85 rfl Tryz.ntmps85 Tryz.results85 (by simp) (by decide) ?_
  simp only [go_sem]
  refine call_pure (r_IsNat mag hl) rfl ?_
  by_cases h : IsN mag
  · cases mag with
    | nil =>
      cases neg
      · simp only [go_sem, h]
        simp [IsI, h]
      · simp only [go_sem, h]
        simp [IsI]
    | cons x l =>
      have hp : (0 : Int) < (l.length : Int) + 1 := by omega
      cases neg
      · simp only [go_sem, h, hp]
        simp [IsI, h]
      · simp only [go_sem, h, hp]
        simp [IsI, h]
  · simp only [go_sem, h]
    simp [IsI, h]
theorem eI_iv {s : Bool} {a : List Nat} (hI : IsI s a) : gI s a = eI (iv s a) := by
  unfold eI iv
  rw [if_pos hI]
  have e1 : (if s = true then -(val a : Int) else (val a : Int)).natAbs = val a := by cases s <;> simp
  have e2 : decide ((if s = true then -(val a : Int) else (val a : Int)) < 0) = s := by
    cases s
    · simp
    · have : a ≠ [] := by rcases hI.2 with h | h; exact h; cases h
      have : 0 < val a := Nat.pos_of_ne_zero fun e => this ((val_eq_zero hI.1).1 e)
      simp; omega
  rw [e1, e2, hI.1.trimZ]
theorem eI_zero : eI 0 = gI false [] := by unfold eI; simp [dig_zero]

set_option maxRecDepth 100000 in
theorem i_May (s : Bool) (a : List Nat) (hl : a.length < 30000000000000) : PCall Tryz.prog 68 [gI s a] (eI (iv s a)) := by
  refine pcall_of_wpA mixed Tryz.call68 Tryz.func68 rfl Tryz.ntmps68 Tryz.results68 (by simp) (by decide) ?_
  simp only [go_sem]
  refine call_pure (i_Is s a hl) rfl ?_
  by_cases h : IsI s a
  · rw [← eI_iv h]
    simp only [go_sem, h]
    exact fz_agg2 .t .t
  · have e : iv s a = 0 := if_neg h
    rw [e, eI_zero]
    simp only [go_sem, h]
    exact fz_agg2 .t .weak

set_option maxRecDepth 100000 in
theorem i_sign (neg : Bool) (l : List Nat) : PCall Tryz.prog 72 [tB neg, tN l] (gI (neg && decide (l ≠ [])) l) := by
  refine pcall_of_wpA mixed Tryz.call72 Tryz.func72 rfl Tryz.ntmps72 Tryz.results72 (by simp) (by decide) ?_
  simp only [go_sem]
  cases neg with
  | false =>
    simp only [go_sem]
    exact fz_agg2 .t .t
  | true =>
    have e : decide (0 < (l.length : Int)) = decide (¬ l = []) := by cases l <;> simp
    simp only [go_sem, e]
    exact fz_agg2 .t .t
end Go.Proofs.YtgnfgaioeldagaaGreat
namespace Go.Proofs.YtgnfgaioeldagaaGreat
open Go Go.Abs
set_option maxHeartbeats 4000000
set_option maxRecDepth 100000 in
theorem i_Of (n : Int) (h1 : -9223372036854775808 ≤ n) (h2 : n < 9223372036854775808) : PCall Tryz.prog 34 [tI .i64 n] (eI n) := by
  refine pcall_of_wpA mixed Tryz.call34 Tryz.func34 rfl Tryz.ntmps34 Tryz.results34 (by simp) (by decide) ?_
  simp only [go_sem]
  have hab : n.natAbs < 18446744073709551616 := by omega
  have hof := r_NatOf n.natAbs hab
  refine CondR_if (fun hn => ?_) (fun hn => ?_)
  · have hw : IntKind.wrap .u64 (0 - IntKind.wrap .u64 n) = (n.natAbs : Int) := by
      unfold IntKind.wrap; simp [IntKind.signed, IntKind.bits]; omega
    have hwh := i_sign true (dig n.natAbs)
    have hsg : (true && decide (dig n.natAbs ≠ [])) = true := by
      rw [Bool.true_and, decide_eq_true_iff, ne_eq, dig_eq_nil]; omega
    rw [hsg] at hwh
    have e : eI n = gI true (dig n.natAbs) := by unfold eI; rw [decide_eq_true hn]
    rw [e]
    simp only [go_sem, hn, hw]
    refine call_pure hof rfl ?_
    simp only [go_sem, hn, hw]
    refine call_pure hwh rfl ?_
    simp only [go_sem, hn]
    exact fz_agg2 .t .t
  · have hw : IntKind.wrap .u64 n = (n.natAbs : Int) := by rw [wrap_u64 (by omega) (by omega)]; omega
    have e : eI n = gI false (dig n.natAbs) := by unfold eI; rw [decide_eq_false hn]
    rw [e]
    simp only [go_sem, hn, hw]
    refine call_pure hof rfl ?_
    simp only [go_sem, hn, hw]
    exact fz_agg2 .t .t

set_option maxRecDepth 100000 in
theorem i_Neg (s : Bool) (a : List Nat) (hl : a.length < 10000000000000) : PCall Tryz.prog 71 [gI s a] (eI (-(iv s a))) := by
  refine pcall_of_wpA mixed Tryz.call71 Tryz.func71 rfl Tryz.ntmps71 Tryz.results71 (by simp) (by decide) ?_
  simp only [go_sem]
  refine call_pure (i_May s a (by omega)) rfl ?_
  generalize iv s a = z at *
  have hwh := i_sign (!decide (z < 0)) (dig z.natAbs)
  have e : ((!decide (z < 0)) && decide (dig z.natAbs ≠ [])) = decide (-z < 0) := by
    rw [Bool.eq_iff_iff]; simp [dig_eq_nil]; omega
  rw [neg_of e (by omega)] at hwh
  simp only [go_sem]
  refine call_pure hwh rfl ?_
  simp only [go_sem]
  exact fz_agg2 .t .t

set_option maxRecDepth 100000 in
theorem i_Abs (s : Bool) (a : List Nat) (hl : a.length < 10000000000000) : PCall Tryz.prog 36 [gI s a] (eI ((iv s a).natAbs : Int)) := by
  refine pcall_of_wpA mixed Tryz.call36 Tryz.func36 rfl Tryz.ntmps36 Tryz.results36 (by simp) (by decide) ?_
  simp only [go_sem]
  refine call_pure (i_May s a (by omega)) rfl ?_
  generalize iv s a = z at *
  have e3 : eI (z.natAbs : Int) = gI false (dig z.natAbs) := by
    unfold eI; rw [show ((z.natAbs : Int)).natAbs = z.natAbs by omega, decide_eq_false (by omega)]
  rw [e3]
  simp only [go_sem]
  exact fz_agg2 .t .t
end Go.Proofs.YtgnfgaioeldagaaGreat
namespace Go.Proofs.YtgnfgaioeldagaaGreat
open Go Go.Abs
set_option maxHeartbeats 4000000
set_option maxRecDepth 100000 in
theorem i_Sign (neg : Bool) (mag : List Nat) (hl : mag.length < 30000000000000) : PCall Tryz.prog 35 [gI neg mag] (tI .i64 (iv neg mag).sign) := by
  refine pcall_of_wpA mixed Tryz.call35 Tryz.func35 rfl Tryz.ntmps35 Tryz.results35 (by simp) (by decide) ?_
  simp only [go_sem]
  refine call_pure (i_May neg mag hl) rfl ?_
  have hs := sign3 (iv neg mag)
  generalize iv neg mag = z at *
  generalize z.sign = sg at *
  by_cases h0 : z = 0
  · have e0 : (dig z.natAbs).length = 0 := by subst h0; simp [dig_zero]
    simp only [go_sem, e0]
    omega
  · have hne : ¬ ((dig z.natAbs).length : Int) = 0 := fun e => by
      have := dig_eq_nil.1 (List.length_eq_zero_iff.1 (Int.ofNat_inj.1 e)); omega
    by_cases hn : z < 0
    · have e : sg = -1 := by omega
      simp only [go_sem, hne, hn, e]
    · have e : sg = 1 := by omega
      simp only [go_sem, hne, hn, e]

set_option maxRecDepth 100000 in
theorem i_Cmp (s : Bool) (a : List Nat) (t : Bool) (b : List Nat) (ha : a.length < 10000000000000) (hb : b.length < 10000000000000) : PCall Tryz.prog 28 [gI s a, gI t b] (tI .i64 (cmpI (iv s a) (iv t b))) := by
  refine pcall_of_wpA mixed Tryz.call28 Tryz.func28 rfl Tryz.ntmps28 Tryz.results28 (by simp) (by decide) ?_
  simp only [go_sem]
  refine regA_by 0 rfl ?_
  simp only [go_sem]
  refine call_pure (i_May s a (by omega)) rfl ?_
  simp only [go_sem]
  refine call_pure (i_May t b (by omega)) rfl ?_
  have hl1 := iv_len s a
  have hl2 := iv_len t b
  generalize iv s a = x at *
  generalize iv t b = y at *
  have c1 := r_CmpNat (dig x.natAbs) (dig y.natAbs) (by omega) (by omega)
  have c2 := r_CmpNat (dig y.natAbs) (dig x.natAbs) (by omega) (by omega)
  rw [vN_dig, vN_dig] at c1 c2
  by_cases hx : x < 0
  · by_cases hy : y < 0
    · simp only [go_sem, hx, hy]
      refine call_pure c2 rfl ?_
      simp only [go_sem]
      unfold cmpI
      repeat' split
      all_goals omega
    · simp only [go_sem, hx, hy]
      unfold cmpI
      rw [if_pos (by omega)]
  · by_cases hy : y < 0
    · simp only [go_sem, hx, hy]
      unfold cmpI
      rw [if_neg (by omega), if_pos (by omega)]
    · simp only [go_sem, hx, hy]
      refine call_pure c1 rfl ?_
      simp only [go_sem]
      unfold cmpI
      repeat' split
      all_goals omega

set_option maxRecDepth 100000 in
theorem i_Equal (s : Bool) (a : List Nat) (t : Bool) (b : List Nat) (ha : a.length < 30000000000000) (hb : b.length < 30000000000000) : PCall Tryz.prog 29 [gI s a, gI t b] (tB (decide (s = t ∧ a = b))) := by
  refine pcall_of_wpA mixed Tryz.call29 Tryz.func29 rfl Tryz.ntmps29 Tryz.results29 (by simp) (by decide) ?_
  simp only [go_sem]
  by_cases hst : s = t
  · have e : (s == t) = true := by simp [hst]
    simp only [go_sem, e]
    refine call_pure (r_SameNat a b ha hb) rfl ?_
    simp only [go_sem]
    simp [hst]
  · have e : (s == t) = false := by simp [hst]
    simp only [go_sem, e]
    simp [hst]

set_option maxRecDepth 100000 in
theorem i_Add (s : Bool) (a : List Nat) (t : Bool) (b : List Nat) (ha : a.length < 2000000000000) (hb : b.length < 2000000000000) : PCall Tryz.prog 32 [gI s a, gI t b] (eI (iv s a + iv t b)) := by
  refine pcall_of_wpA mixed Tryz.call32 Tryz.func32 rfl Tryz.ntmps32 Tryz.results32 (by simp) (by decide) ?_
  simp only [go_sem]
  refine regA_by 0 rfl ?_
  simp only [go_sem]
  refine call_pure (i_May s a (by omega)) rfl ?_
  simp only [go_sem]
  refine call_pure (i_May t b (by omega)) rfl ?_
  have hl1 := iv_len s a
  have hl2 := iv_len t b
  generalize iv s a = x at *
  generalize iv t b = y at *
  by_cases hsame : (decide (x < 0)) = decide (y < 0)
  · have hadd := r_AddNat (dig x.natAbs) (dig y.natAbs) (by omega) (by omega)
    rw [vN_dig, vN_dig] at hadd
    have hz : x.natAbs + y.natAbs = (x + y).natAbs := by
      rw [decide_eq_decide] at hsame; omega
    rw [hz] at hadd
    have hwh := i_sign (decide (x < 0)) (dig (x + y).natAbs)
    have hsg : (decide (x < 0) && decide (dig (x + y).natAbs ≠ [])) = decide (x + y < 0) := by
      rw [decide_eq_decide] at hsame
      rw [Bool.eq_iff_iff]; simp only [ne_eq, Bool.and_eq_true, decide_eq_true_eq, dig_eq_nil]; omega
    rw [neg_of hsg rfl] at hwh
    have hbq : (decide (x < 0) == decide (y < 0)) = true := by rw [hsame]; simp
    simp only [go_sem, hbq]
    refine regA_by 0 rfl ?_
    simp only [go_sem]
    refine call_pure hadd rfl ?_
    simp only [go_sem]
    refine call_pure hwh rfl ?_
    simp only [go_sem]
    exact fz_agg2 .t .t
  · have hbq : (decide (x < 0) == decide (y < 0)) = false := by simpa using hsame
    rw [decide_eq_decide] at hsame
    have hov := r_CmpNat (dig x.natAbs) (dig y.natAbs) (by omega) (by omega)
    rw [vN_dig, vN_dig] at hov
    simp only [go_sem, hbq]
    refine call_pure hov rfl ?_
    by_cases hgt : y.natAbs ≤ x.natAbs
    · have hc : 0 ≤ cmpI (x.natAbs : Int) (y.natAbs : Int) := by
        unfold cmpI; repeat' split
        all_goals omega
      have hsub := r_SubNat (dig x.natAbs) (dig y.natAbs) (by omega) (by omega)
      rw [vN_dig, vN_dig, show x.natAbs - y.natAbs = (x + y).natAbs by omega] at hsub
      have hwh := i_sign (decide (x < 0)) (dig (x + y).natAbs)
      have hsg : (decide (x < 0) && decide (dig (x + y).natAbs ≠ [])) = decide (x + y < 0) := by
        rw [Bool.eq_iff_iff]; simp only [ne_eq, Bool.and_eq_true, decide_eq_true_eq, dig_eq_nil]; omega
      rw [neg_of hsg rfl] at hwh
      simp only [go_sem, hc]
      refine regA_by 0 rfl ?_
      simp only [go_sem]
      refine call_pure hsub rfl ?_
      simp only [go_sem]
      refine call_pure hwh rfl ?_
      simp only [go_sem]
      exact fz_agg2 .t .t
    · have hc : ¬ 0 ≤ cmpI (x.natAbs : Int) (y.natAbs : Int) := by
        unfold cmpI; repeat' split
        all_goals omega
      have hsub := r_SubNat (dig y.natAbs) (dig x.natAbs) (by omega) (by omega)
      rw [vN_dig, vN_dig, show y.natAbs - x.natAbs = (x + y).natAbs by omega] at hsub
      have hwh := i_sign (decide (y < 0)) (dig (x + y).natAbs)
      have hsg : (decide (y < 0) && decide (dig (x + y).natAbs ≠ [])) = decide (x + y < 0) := by
        rw [Bool.eq_iff_iff]; simp only [ne_eq, Bool.and_eq_true, decide_eq_true_eq, dig_eq_nil]; omega
      rw [neg_of hsg rfl] at hwh
      simp only [go_sem, hc]
      refine regA_by 0 rfl ?_
      simp only [go_sem]
      refine call_pure hsub rfl ?_
      simp only [go_sem]
      refine call_pure hwh rfl ?_
      simp only [go_sem]
      exact fz_agg2 .t .t

set_option maxRecDepth 100000 in
theorem i_Sub (s : Bool) (a : List Nat) (t : Bool) (b : List Nat) (ha : a.length < 2000000000000) (hb : b.length < 2000000000000) : PCall Tryz.prog 30 [gI s a, gI t b] (eI (iv s a - iv t b)) := by
  refine pcall_of_wpA mixed Tryz.call30 Tryz.func30 rfl Tryz.ntmps30 Tryz.results30 (by simp) (by decide) ?_
  simp only [go_sem]
  refine regA_by 0 rfl ?_
  simp only [go_sem]
  refine call_pure (i_Neg t b (by omega)) rfl ?_
  have hl2 := iv_len t b
  simp only [go_sem]
  have had := i_Add s a (decide (-(iv t b) < 0)) (dig (-(iv t b)).natAbs) ha (by rw [Int.natAbs_neg]; omega)
  rw [iv_eI, ← Int.sub_eq_add_neg] at had
  refine call_pure had rfl ?_
  simp only [go_sem]
  exact fz_agg2 .t .t
end Go.Proofs.YtgnfgaioeldagaaGreat
namespace Go.Proofs.YtgnfgaioeldagaaGreat
open Go Go.Abs
set_option maxHeartbeats 4000000
/-- The number of limbs of an integer. -/
def lN (z : Int) : Nat := (dig z.natAbs).length
theorem lN_nat {m k : Nat} (h : m < BB ^ k) : (dig m).length ≤ k := dig_length_le h
theorem lt_lN (z : Int) : z.natAbs < BB ^ lN z := by
  have := val_lt (dig_lt z.natAbs); rwa [val_dig] at this
theorem lN_of {z : Int} {k : Nat} (h : z.natAbs < BB ^ k) : lN z ≤ k := dig_length_le h
theorem lN_neg (z : Int) : lN (-z) = lN z := by unfold lN; rw [Int.natAbs_neg]
theorem lN_abs (z : Int) : lN (z.natAbs : Int) = lN z := by unfold lN; rw [Int.natAbs_natCast]
theorem BB_pow_succ (k : Nat) : BB ^ (k + 1) = 1000000000 * BB ^ k := by rw [Nat.pow_succ, Nat.mul_comm]
theorem lN_add (x y : Int) : lN (x + y) ≤ max (lN x) (lN y) + 1 := by
  apply lN_of
  have h1 := lt_lN x; have h2 := lt_lN y
  have h3 : BB ^ lN x ≤ BB ^ max (lN x) (lN y) := Nat.pow_le_pow_right (by decide) (Nat.le_max_left ..)
  have h4 : BB ^ lN y ≤ BB ^ max (lN x) (lN y) := Nat.pow_le_pow_right (by decide) (Nat.le_max_right ..)
  have h5 := Int.natAbs_add_le x y
  rw [BB_pow_succ]; omega
theorem lN_sub (x y : Int) : lN (x - y) ≤ max (lN x) (lN y) + 1 := by
  have := lN_add x (-y); rwa [lN_neg, ← Int.sub_eq_add_neg] at this
theorem lN_mul (x y : Int) : lN (x * y) ≤ lN x + lN y := by
  apply lN_of
  rw [Int.natAbs_mul, Nat.pow_add]
  exact Nat.mul_lt_mul'' (lt_lN x) (lt_lN y)
theorem lN_le {x y : Int} (h : x.natAbs ≤ y.natAbs) : lN x ≤ lN y := lN_of (Nat.lt_of_le_of_lt h (lt_lN y))
theorem lN_iv (s : Bool) (a : List Nat) : lN (iv s a) ≤ a.length := iv_len s a
theorem lN_one : lN 1 ≤ 1 := lN_of (by decide)

set_option maxRecDepth 100000 in
theorem i_Mul (s : Bool) (a : List Nat) (t : Bool) (b : List Nat) (ha : a.length < 2000000000000) (hb : b.length < 2000000000000) : PCall Tryz.prog 33 [gI s a, gI t b] (eI (iv s a * iv t b)) := by
  refine pcall_of_wpA mixed Tryz.call33 Tryz.func33 rfl Tryz.ntmps33 Tryz.results33 (by simp) (by decide) ?_
  simp only [go_sem]
  refine regA_by 0 rfl ?_
  simp only [go_sem]
  refine call_pure (i_May s a (by omega)) rfl ?_
  simp only [go_sem]
  refine call_pure (i_May t b (by omega)) rfl ?_
  have hl1 := iv_len s a
  have hl2 := iv_len t b
  generalize iv s a = x at *
  generalize iv t b = y at *
  have hmul := r_MulNat (dig x.natAbs) (dig y.natAbs) (by omega) (by omega)
  rw [vN_dig, vN_dig, ← Int.natAbs_mul] at hmul
  have hwh := i_sign (decide (x < 0) != decide (y < 0)) (dig (x * y).natAbs)
  have hsg : ((decide (x < 0) != decide (y < 0)) && decide (dig (x * y).natAbs ≠ [])) = decide (x * y < 0) := by
    rw [Bool.eq_iff_iff]; simp [dig_eq_nil]
    rcases Int.lt_trichotomy x 0 with h | h | h <;> rcases Int.lt_trichotomy y 0 with h' | h' | h' <;> simp_all [Int.mul_neg_of_neg_of_pos, Int.mul_neg_of_pos_of_neg] <;> first | omega | (have := Int.mul_pos_of_neg_of_neg h h'; omega) | (have := Int.mul_pos h h'; omega) | skip
  rw [neg_of hsg rfl] at hwh
  simp only [go_sem]
  refine regA_by 0 rfl ?_
  simp only [go_sem]
  refine call_pure hmul rfl ?_
  simp only [go_sem]
  refine call_pure hwh rfl ?_
  simp only [go_sem]
  exact fz_agg2 .t .t

theorem i_Sign_e (x : Int) (hl : lN x < 30000000000000) : PCall Tryz.prog 35 [eI x] (tI .i64 x.sign) := by
  have := i_Sign (decide (x < 0)) (dig x.natAbs) hl; rwa [iv_eI] at this
theorem i_Neg_e (x : Int) (hl : lN x < 10000000000000) : PCall Tryz.prog 71 [eI x] (eI (-x)) := by
  have := i_Neg (decide (x < 0)) (dig x.natAbs) hl; rwa [iv_eI] at this
theorem i_Abs_e (x : Int) (hl : lN x < 10000000000000) : PCall Tryz.prog 36 [eI x] (eI (x.natAbs : Int)) := by
  have := i_Abs (decide (x < 0)) (dig x.natAbs) hl; rwa [iv_eI] at this
theorem i_Add_e (x y : Int) (ha : lN x < 2000000000000) (hb : lN y < 2000000000000) : PCall Tryz.prog 32 [eI x, eI y] (eI (x + y)) := by
  have := i_Add (decide (x < 0)) (dig x.natAbs) (decide (y < 0)) (dig y.natAbs) ha hb; rwa [iv_eI, iv_eI] at this
theorem i_Sub_e (x y : Int) (ha : lN x < 2000000000000) (hb : lN y < 2000000000000) : PCall Tryz.prog 30 [eI x, eI y] (eI (x - y)) := by
  have := i_Sub (decide (x < 0)) (dig x.natAbs) (decide (y < 0)) (dig y.natAbs) ha hb; rwa [iv_eI, iv_eI] at this
theorem i_Mul_e (x y : Int) (ha : lN x < 2000000000000) (hb : lN y < 2000000000000) : PCall Tryz.prog 33 [eI x, eI y] (eI (x * y)) := by
  have := i_Mul (decide (x < 0)) (dig x.natAbs) (decide (y < 0)) (dig y.natAbs) ha hb; rwa [iv_eI, iv_eI] at this
theorem i_Cmp_e (x y : Int) (ha : lN x < 10000000000000) (hb : lN y < 10000000000000) : PCall Tryz.prog 28 [eI x, eI y] (tI .i64 (cmpI x y)) := by
  have := i_Cmp (decide (x < 0)) (dig x.natAbs) (decide (y < 0)) (dig y.natAbs) ha hb; rwa [iv_eI, iv_eI] at this
theorem eI_inj {x y : Int} : (decide (x < 0) = decide (y < 0) ∧ dig x.natAbs = dig y.natAbs) ↔ x = y := by
  refine ⟨fun ⟨h, h'⟩ => ?_, fun h => by rw [h]; exact ⟨rfl, rfl⟩⟩
  have h2 : x.natAbs = y.natAbs := by rw [← val_dig x.natAbs, h', val_dig]
  rw [decide_eq_decide] at h; omega
theorem i_Equal_e (x y : Int) (ha : lN x < 30000000000000) (hb : lN y < 30000000000000) : PCall Tryz.prog 29 [eI x, eI y] (tB (decide (x = y))) := by
  have := i_Equal (decide (x < 0)) (dig x.natAbs) (decide (y < 0)) (dig y.natAbs) ha hb
  rwa [show decide (decide (x < 0) = decide (y < 0) ∧ dig x.natAbs = dig y.natAbs) = decide (x = y) from decide_eq_decide.2 eI_inj] at this
theorem w_Sign_e (x : Int) (hl : lN x < 30000000000000) : PCall Tryz.prog 99 [eI x] (tI .i64 x.sign) := by
  have := w_Sign (decide (x < 0)) (dig x.natAbs) hl; rwa [iv_eI] at this
theorem w_Neg_e (x : Int) (hl : lN x < 10000000000000) : PCall Tryz.prog 123 [eI x] (eI (-x)) := by
  have := w_Neg (decide (x < 0)) (dig x.natAbs) hl; rwa [iv_eI] at this
theorem w_Abs_e (x : Int) (hl : lN x < 10000000000000) : PCall Tryz.prog 122 [eI x] (eI (x.natAbs : Int)) := by
  have := w_Abs (decide (x < 0)) (dig x.natAbs) hl; rwa [iv_eI] at this
theorem w_Add_e (x y : Int) (ha : lN x < 2000000000000) (hb : lN y < 2000000000000) : PCall Tryz.prog 125 [eI x, eI y] (eI (x + y)) := by
  have := w_Add (decide (x < 0)) (dig x.natAbs) (decide (y < 0)) (dig y.natAbs) ha hb; rwa [iv_eI, iv_eI] at this
theorem w_Sub_e (x y : Int) (ha : lN x < 2000000000000) (hb : lN y < 2000000000000) : PCall Tryz.prog 126 [eI x, eI y] (eI (x - y)) := by
  have := w_Sub (decide (x < 0)) (dig x.natAbs) (decide (y < 0)) (dig y.natAbs) ha hb; rwa [iv_eI, iv_eI] at this
theorem w_Mul_e (x y : Int) (ha : lN x < 2000000000000) (hb : lN y < 2000000000000) : PCall Tryz.prog 127 [eI x, eI y] (eI (x * y)) := by
  have := w_Mul (decide (x < 0)) (dig x.natAbs) (decide (y < 0)) (dig y.natAbs) ha hb; rwa [iv_eI, iv_eI] at this
theorem w_Cmp_e (x y : Int) (ha : lN x < 10000000000000) (hb : lN y < 10000000000000) : PCall Tryz.prog 131 [eI x, eI y] (tI .i64 (cmpI x y)) := by
  have := w_Cmp (decide (x < 0)) (dig x.natAbs) (decide (y < 0)) (dig y.natAbs) (Nat.lt_trans ha (by decide)) (Nat.lt_trans hb (by decide)); rwa [iv_eI, iv_eI] at this
theorem w_Euclid_e (x y : Int) (ha : lN x < 10000000000) (hb : lN y < 10000000000) : PCall Tryz.prog 124 [eI x, eI y] (.tup [eI (x / y), eI (x % y)]) := by
  have := w_Euclid (decide (x < 0)) (dig x.natAbs) (decide (y < 0)) (dig y.natAbs) ha hb; rwa [iv_eI, iv_eI] at this
theorem w_Of_e (n : Int) (h1 : -9223372036854775808 ≤ n) (h2 : n < 9223372036854775808) : PCall Tryz.prog 87 [tI .i64 n] (eI n) := w_Of n h1 h2
end Go.Proofs.YtgnfgaioeldagaaGreat
