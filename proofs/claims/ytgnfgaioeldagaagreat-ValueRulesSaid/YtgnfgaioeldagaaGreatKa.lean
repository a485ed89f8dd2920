/- At every input the call answers true and leaves its arguments as they were; no conditions. -/
import Derived.Test.YtgnfgaioeldagaaGreatQa
set_option linter.unusedSimpArgs false
set_option linter.unusedVariables false
namespace Go.Proofs.YtgnfgaioeldagaaGreat
open Go Go.Abs
set_option maxHeartbeats 4000000
/-- What Small tells of what fits (proved by the kit's walk elsewhere). -/
def SmallSpec : Prop := ∀ (s : Bool) (a : List Nat), a.length ≤ 9223372036854775807 → -9223372036854775808 ≤ iv s a → iv s a < 9223372036854775808 → PCall Tryz.prog 81 [gI s a] (.tup [tI .i64 (iv s a), tB true])

set_option maxRecDepth 100000 in
theorem w_Small_out (s : Bool) (a : List Nat) (ha : a.length < 100000000000) (h : ¬ (-9223372036854775808 ≤ iv s a ∧ iv s a < 9223372036854775808)) : PCall Tryz.prog 81 [gI s a] (.tup [tI .i64 0, tB false]) := by
  refine pcall_of_wpA mixed Tryz.call81 Tryz.func81 rfl Tryz.ntmps81 Tryz.results81 (by simp) (by decide) ?_
  have hof := w_of' s a (by omega)
  have hl1 := iv_len s a
  generalize iv s a = x at *
  obtain ⟨t1, ht1⟩ : ∃ t : Nat, t = 9223372036854775807 := ⟨_, rfl⟩
  obtain ⟨t2, ht2⟩ : ∃ t : Nat, t = 9223372036854775808 := ⟨_, rfl⟩
  have o1 : PCall Tryz.prog 112 [tI .u64 9223372036854775807] (tN (dig t1)) := by rw [ht1]; exact p_nat_Of 9223372036854775807 (by decide)
  have o2 : PCall Tryz.prog 112 [tI .u64 9223372036854775808] (tN (dig t2)) := by rw [ht2]; exact p_nat_Of 9223372036854775808 (by decide)
  have z1 : (dig t1).length ≤ 3 := dig_length_le (by rw [ht1]; decide)
  have z2 : (dig t2).length ≤ 3 := dig_length_le (by rw [ht2]; decide)
  have v1 := w_over (dig x.natAbs) (dig t1) (by omega) (by omega)
  have v2 := w_over (dig x.natAbs) (dig t2) (by omega) (by omega)
  rw [vN_dig, vN_dig] at v1 v2
  by_cases hn : x < 0
  · have v3 := tB_of v2 (by omega)
    simp only [go_sem]
    (repeat (first | (refine regA_by 0 rfl ?_; simp only [go_sem, hn]) | (refine call_pure (hof) rfl ?_; simp only [go_sem, hn]) | (refine call_pure (o1) rfl ?_; simp only [go_sem, hn]) | (refine call_pure (o2) rfl ?_; simp only [go_sem, hn]) | (refine call_pure (v3) rfl ?_; simp only [go_sem, hn])))
    exact fz_tup2 fzT fzT
  · have v3 := tB_of v1 (by omega)
    simp only [go_sem]
    (repeat (first | (refine regA_by 0 rfl ?_; simp only [go_sem, hn]) | (refine call_pure (hof) rfl ?_; simp only [go_sem, hn]) | (refine call_pure (o1) rfl ?_; simp only [go_sem, hn]) | (refine call_pure (o2) rfl ?_; simp only [go_sem, hn]) | (refine call_pure (v3) rfl ?_; simp only [go_sem, hn])))
    exact fz_tup2 fzT fzT
theorem w_Small_e (hS : SmallSpec) (x : Int) (hl : lN x < 100000000000) (h1 : -9223372036854775808 ≤ x) (h2 : x < 9223372036854775808) : PCall Tryz.prog 81 [eI x] (.tup [tI .i64 x, tB true]) := by
  have := hS (decide (x < 0)) (dig x.natAbs) (by unfold lN at hl; omega) (by rw [iv_eI]; exact h1) (by rw [iv_eI]; exact h2); rwa [iv_eI] at this
theorem w_Small_no (x : Int) (hl : lN x < 100000000000) (h : ¬ (-9223372036854775808 ≤ x ∧ x < 9223372036854775808)) : PCall Tryz.prog 81 [eI x] (.tup [tI .i64 0, tB false]) := w_Small_out _ _ hl (by rw [iv_eI]; exact h)
theorem w_Is_e (x : Int) (hl : lN x < 30000000000000) : PCall Tryz.prog 82 [eI x] (tB true) := tB_of (w_Is (decide (x < 0)) (dig x.natAbs) hl) (IsI_eI x)
end Go.Proofs.YtgnfgaioeldagaaGreat
namespace Go.Proofs.YtgnfgaioeldagaaGreat
open Go Go.Abs
set_option maxHeartbeats 4000000
set_option maxRecDepth 100000 in
theorem p_nat_Is_a (xs : List Nat) (hl : xs.length ≤ 9223372036854775807) : PCall Tryz.prog 115 [tN xs] (tB (decide (IsN xs))) := by
  refine pcall_of_wpA mixed Tryz.call115 Tryz.func115 rfl Tryz.ntmps115 Tryz.results115 (by simp) (by decide) ?_
  simp only [go_sem]
  refine loop_inv (fun i : Nat => stL 26 [(0, .one (.t (eN xs))), (5, .one (.t (eN xs))), (6, litI .i64 xs.length), (7, litI .i64 i)] []) (fun i => i ≤ xs.length ∧ ∀ j (h : j < xs.length), j < i → xs[j] < 1000000000) (fun i => xs.length - i) 0 ?_ ⟨Nat.zero_le _, fun j h hj => absurd hj (Nat.not_lt_zero _)⟩ ?_
  · refine gstep_list rfl ?_ ?_ rfl rfl <;> simp only [go_sem] <;> simp
  · rintro i ⟨hi, hpre⟩
    simp only [go_sem]
    refine CondR_if (fun hlt => ?_) (fun hge => ?_)
    · have hlt' : i < xs.length := by omega
      simp only [go_sem, elemD_lt hlt', hlt]
      refine ⟨by omega, CondR_if (fun h => ?_) (fun h => ?_)⟩
      · simp only [go_sem]
        symm
        simp only [decide_eq_false_iff_not]
        intro hc
        have := hc.1 xs[i] (List.getElem_mem _)
        simp only [BB] at this; omega
      · simp only [go_sem]
        refine ⟨i + 1, ⟨hlt', fun j hj hji => ?_⟩, (by show xs.length - (i + 1) < xs.length - i; omega), ?_⟩
        · by_cases e : j = i
          · subst e; omega
          · exact hpre j hj (by omega)
        · refine gstep_list rfl ?_ ?_ rfl rfl <;> simp only [go_sem, wrap_i64 (n := (i : Int) + 1) (by omega) (by omega)] <;> simp
    · have hge' : i = xs.length := by omega
      subst hge'
      have hall : ∀ x ∈ xs, x < BB := fun x hx => by
        obtain ⟨j, hj, rfl⟩ := List.mem_iff_getElem.1 hx
        exact hpre j hj hj
      simp only [go_sem]
      cases hx : xs with
      | nil =>
        simp only [go_sem]
        rfl
      | cons x l =>
        rw [hx] at hl hall
        simp only [List.length_cons] at hl
        have hne : ¬ ((l.length : Int) + 1 = 0) := by omega
        have hlen : l.length < (x :: l).length := by simp
        ((try simp only [go_sem, hne, show (l.length : Int) + 1 - 1 = (l.length : Int) by omega]); (try simp (disch := omega) only [wrap_i64, wrap_u64, wrap_u32, elemD_lt, hne, show (l.length : Int) + 1 - 1 = (l.length : Int) by omega]); (try simp only [go_sem, hne, show (l.length : Int) + 1 - 1 = (l.length : Int) by omega]); (try simp (disch := omega) only [wrap_i64, wrap_u64, wrap_u32, elemD_lt, hne, show (l.length : Int) + 1 - 1 = (l.length : Int) by omega]); (try simp only [go_sem, hne, show (l.length : Int) + 1 - 1 = (l.length : Int) by omega]))
        have e : (x :: l).getLast? = some ((x :: l)[l.length]) := by simp [List.getLast?_eq_getElem?]
        have hiff : IsN (x :: l) ↔ (x :: l)[l.length] ≠ 0 := by
          unfold IsN; rw [e]; simp only [ne_eq, Option.some.injEq]
          exact ⟨fun h => h.2, fun h => ⟨hall, h⟩⟩
        refine ⟨by omega, ?_⟩
        rw [decide_eq_decide, hiff]
        omega

set_option maxRecDepth 100000 in
theorem p_nat_held_a (xs : List Nat) (hl : xs.length ≤ 9223372036854775807) : PCall Tryz.prog 154 [tN xs] (tN (held xs)) := by
  refine pcall_of_wpA mixed Tryz.call154 Tryz.func154 rfl Tryz.ntmps154 Tryz.results154 (by simp) (by decide) ?_
  simp only [go_sem]
  refine call_pure (p_nat_Is_a xs hl) rfl ?_
  by_cases h : IsN xs
  · simp only [go_sem, h, held]
    exact fz_eL
  · simp only [go_sem, h, held]
    exact fz_nil

set_option maxRecDepth 100000 in
theorem p_nat_Cmp_a (a b : List Nat) (ha : a.length ≤ 9223372036854775807) (hb : b.length ≤ 9223372036854775807) : PCall Tryz.prog 139 [tN a, tN b] (tI .i64 (cmpI (vN a) (vN b))) := by
  refine pcall_of_wpA mixed Tryz.call139 Tryz.func139 rfl Tryz.ntmps139 Tryz.results139 (by simp) (by decide) ?_
  simp only [go_sem]
  refine call_pure (p_nat_held_a a ha) rfl ?_
  simp only [go_sem]
  refine call_pure (p_nat_held_a b hb) rfl ?_
  have ha1 := held_length a
  have hb1 := held_length b
  have hA := IsN_held a
  have hB := IsN_held b
  unfold vN
  generalize held a = x at *
  generalize held b = y at *
  simp only [go_sem]
  refine CondR_if (fun h => ?_) (fun h => ?_)
  · simp only [go_sem]
    refine call_pure (p_Compare_int _ _) rfl ?_
    simp only [go_sem]
    have : x.length ≠ y.length := by omega
    rcases Nat.lt_or_ge x.length y.length with h1 | h1
    · have := val_lt_len hA hB h1
      unfold cmpI; rw [if_pos (by omega), if_pos (by omega)]
    · have := val_lt_len hB hA (by omega)
      unfold cmpI; rw [if_neg (by omega), if_pos (by omega), if_neg (by omega), if_pos (by omega)]
  · have hlen : x.length = y.length := by omega
    simp only [go_sem]
    refine loop_inv (fun k : Nat => stL 45 [(0, aN x), (1, aN y), (5, litI .i64 ((k : Int) - 1))] []) (fun k => k ≤ x.length ∧ x.drop k = y.drop k) (fun k => k) x.length ?_ ⟨Nat.le_refl _, by rw [List.drop_length, hlen, List.drop_length]⟩ ?_
    · refine gstep_list rfl ?_ ?_ rfl rfl <;> simp only [go_sem, wrap_i64 (n := (x.length : Int) - 1) (by omega) (by omega)] <;> simp
    · rintro k ⟨hk, hd⟩
      simp only [go_sem]
      refine CondR_if (fun hlt => ?_) (fun hge => ?_)
      · obtain ⟨i, rfl⟩ : ∃ i, k = i + 1 := ⟨k - 1, by omega⟩
        have hx : i < x.length := by omega
        have hy : i < y.length := by omega
        have e : ((i : Int) + 1 - 1) = i := by omega
        simp only [go_sem, e]
        refine regA_by 0 rfl ?_
        ((try simp only [go_sem, e]); (try simp (disch := omega) only [wrap_i64, wrap_u64, wrap_u32, elemD_lt, e]); (try simp only [go_sem, e]); (try simp (disch := omega) only [wrap_i64, wrap_u64, wrap_u32, elemD_lt, e]); (try simp only [go_sem, e]))
        refine ⟨by omega, by omega, CondR_if (fun h => ?_) (fun h => ?_)⟩
        · simp only [go_sem]
          refine regA_by 0 rfl ?_
          ((try simp only [go_sem, e]); (try simp (disch := omega) only [wrap_i64, wrap_u64, wrap_u32, elemD_lt, e]); (try simp only [go_sem, e]); (try simp (disch := omega) only [wrap_i64, wrap_u64, wrap_u32, elemD_lt, e]); (try simp only [go_sem, e]))
          refine ⟨by omega, by omega, ?_⟩
          refine call_pure (p_Compare_u32 _ _) rfl ?_
          simp only [go_sem]
          have hne : x[i] ≠ y[i] := by omega
          rcases Nat.lt_or_ge x[i] y[i] with h1 | h1
          · have := val_lt_at hA.1 hx hy hd h1
            unfold cmpI; rw [if_pos (by omega), if_pos (by omega)]
          · have := val_lt_at hB.1 hy hx hd.symm (by omega)
            unfold cmpI; rw [if_neg (by omega), if_pos (by omega), if_neg (by omega), if_pos (by omega)]
        · simp only [go_sem]
          refine ⟨i, ⟨by omega, ?_⟩, Nat.lt_succ_self i, ?_⟩
          · rw [List.drop_eq_getElem_cons hx, List.drop_eq_getElem_cons hy, hd, show x[i] = y[i] by omega]
          · refine gstep_list rfl ?_ ?_ rfl rfl <;> simp only [go_sem, e, wrap_i64 (n := (i : Int) - 1) (by omega) (by omega)] <;> simp
      · have hk0 : k = 0 := by omega
        subst hk0
        simp only [go_sem]
        have : x = y := by simpa using hd
        subst this
        unfold cmpI; rw [if_neg (by omega), if_neg (by omega)]

set_option maxRecDepth 100000 in
theorem w_Is_a (neg : Bool) (mag : List Nat) (hl : mag.length ≤ 9223372036854775807) : PCall Tryz.prog 82 [gI neg mag] (tB (decide (IsI neg mag))) := by
  refine pcall_of_wpA mixed Tryz.call82 Tryz.func82 rfl Tryz.ntmps82 Tryz.results82 (by simp) (by decide) ?_
  simp only [go_sem]
  refine call_pure (p_nat_Is_a mag hl) rfl ?_
  by_cases h : IsN mag
  · cases mag with
    | nil =>
      cases neg
      · simp only [go_sem, h]
        simp [IsI, h]
      · simp only [go_sem, h]
        simp [IsI]
    | cons x l =>
      have hp : (0 : Int) < (l.length : Int) + 1 := by omega
      simp only [go_sem, h, hp]
      simp [IsI, h]
  · simp only [go_sem, h]
    simp [IsI, h]

set_option maxRecDepth 100000 in
theorem w_of_a (neg : Bool) (mag : List Nat) (hl : mag.length ≤ 9223372036854775807) : PCall Tryz.prog 111 [gI neg mag] (if IsI neg mag then gS mag neg else gS [] false) := by
  refine pcall_of_wpA mixed Tryz.call111 Tryz.func111 rfl Tryz.ntmps111 Tryz.results111 (by simp) (by decide) ?_
  simp only [go_sem]
  refine call_pure (w_Is_a neg mag hl) rfl ?_
  by_cases h : IsI neg mag
  · rw [if_pos h]
    simp only [go_sem, h]
    exact fz_agg2 .t .t
  · rw [if_neg h]
    simp only [go_sem, h]
    exact fz_agg2 .weak .t

theorem w_of'_a (s : Bool) (a : List Nat) (hl : a.length ≤ 9223372036854775807) : PCall Tryz.prog 111 [gI s a] (sI (iv s a)) := by
  have h := w_of_a s a hl
  have e : (if IsI s a then gS a s else gS [] false) = sI (iv s a) := by
    unfold iv
    by_cases hI : IsI s a
    · rw [if_pos hI, if_pos hI]
      have e1 : (if s = true then -(val a : Int) else (val a : Int)).natAbs = val a := by cases s <;> simp
      have e2 : decide ((if s = true then -(val a : Int) else (val a : Int)) < 0) = s := by
        cases s
        · simp
        · have : a ≠ [] := by rcases hI.2 with h | h; exact h; cases h
          have : 0 < val a := Nat.pos_of_ne_zero fun e => this ((val_eq_zero hI.1).1 e)
          simp; omega
      unfold sI
      rw [e1, e2, hI.1.trimZ]
    · rw [if_neg hI, if_neg hI]
      simp [sI, dig_zero]
  rw [← e]; exact h

set_option maxRecDepth 100000 in
theorem w_over_a (a b : List Nat) (ha : a.length ≤ 9223372036854775807) (hb : b.length ≤ 9223372036854775807) : PCall Tryz.prog 113 [gZ a, gZ b] (tB (decide (vN b < vN a))) := by
  refine pcall_of_wpA mixed Tryz.call113 Tryz.func113 rfl Tryz.ntmps113 Tryz.results113 (by simp) (by decide) ?_
  simp only [go_sem]
  refine call_pure (p_nat_Cmp_a a b ha hb) rfl ?_
  simp only [go_sem]
  rw [decide_eq_decide]
  unfold cmpI
  repeat' split
  all_goals omega

set_option maxRecDepth 100000 in
theorem w_Small_out_a (s : Bool) (a : List Nat) (ha : a.length ≤ 9223372036854775807) (h : ¬ (-9223372036854775808 ≤ iv s a ∧ iv s a < 9223372036854775808)) : PCall Tryz.prog 81 [gI s a] (.tup [tI .i64 0, tB false]) := by
  refine pcall_of_wpA mixed Tryz.call81 Tryz.func81 rfl Tryz.ntmps81 Tryz.results81 (by simp) (by decide) ?_
  have hof := w_of'_a s a (by omega)
  have hl1 := iv_len s a
  generalize iv s a = x at *
  obtain ⟨t1, ht1⟩ : ∃ t : Nat, t = 9223372036854775807 := ⟨_, rfl⟩
  obtain ⟨t2, ht2⟩ : ∃ t : Nat, t = 9223372036854775808 := ⟨_, rfl⟩
  have o1 : PCall Tryz.prog 112 [tI .u64 9223372036854775807] (tN (dig t1)) := by rw [ht1]; exact p_nat_Of 9223372036854775807 (by decide)
  have o2 : PCall Tryz.prog 112 [tI .u64 9223372036854775808] (tN (dig t2)) := by rw [ht2]; exact p_nat_Of 9223372036854775808 (by decide)
  have z1 : (dig t1).length ≤ 3 := dig_length_le (by rw [ht1]; decide)
  have z2 : (dig t2).length ≤ 3 := dig_length_le (by rw [ht2]; decide)
  have v1 := w_over_a (dig x.natAbs) (dig t1) (by omega) (by omega)
  have v2 := w_over_a (dig x.natAbs) (dig t2) (by omega) (by omega)
  rw [vN_dig, vN_dig] at v1 v2
  by_cases hn : x < 0
  · have v3 := tB_of v2 (by omega)
    simp only [go_sem]
    (repeat (first | (refine regA_by 0 rfl ?_; simp only [go_sem, hn]) | (refine call_pure (hof) rfl ?_; simp only [go_sem, hn]) | (refine call_pure (o1) rfl ?_; simp only [go_sem, hn]) | (refine call_pure (o2) rfl ?_; simp only [go_sem, hn]) | (refine call_pure (v3) rfl ?_; simp only [go_sem, hn])))
    exact fz_tup2 fzT fzT
  · have v3 := tB_of v1 (by omega)
    simp only [go_sem]
    (repeat (first | (refine regA_by 0 rfl ?_; simp only [go_sem, hn]) | (refine call_pure (hof) rfl ?_; simp only [go_sem, hn]) | (refine call_pure (o1) rfl ?_; simp only [go_sem, hn]) | (refine call_pure (o2) rfl ?_; simp only [go_sem, hn]) | (refine call_pure (v3) rfl ?_; simp only [go_sem, hn])))
    exact fz_tup2 fzT fzT
end Go.Proofs.YtgnfgaioeldagaaGreat
