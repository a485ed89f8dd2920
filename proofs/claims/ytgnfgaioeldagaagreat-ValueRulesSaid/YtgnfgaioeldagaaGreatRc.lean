/- At every input the call answers true and leaves its arguments as they were; no conditions. -/
import Derived.Test.YtgnfgaioeldagaaGreatRb
import Derived.Test.YtgnfgaioeldagaaGreatMc
set_option linter.unusedSimpArgs false
set_option linter.unusedVariables false
namespace Go.Proofs.YtgnfgaioeldagaaGreat
open Go Go.Abs
set_option maxHeartbeats 1000000
theorem val_drop_lt {y : List Nat} {k : Nat} (hy : ∀ z ∈ y, z < BB) : val (y.drop k) < BB ^ y.length :=
  Nat.lt_of_lt_of_le (val_lt fun z hz => hy z (List.mem_of_mem_drop hz)) (Nat.pow_le_pow_right (by decide) (by rw [List.length_drop]; omega))
theorem mul_dig_len {x y : List Nat} {k : Nat} (hx : ∀ z ∈ x, z < BB) (hy : ∀ z ∈ y, z < BB) : (dig (val x * val (y.drop k))).length ≤ x.length + y.length := dig_length_le (by
  rw [Nat.pow_add]
  have h1 := val_lt hx
  have h2 := val_drop_lt (k := k) hy
  exact Nat.mul_lt_mul'' h1 h2)
theorem shift_dig {m low : Nat} (hl : low < BB) : trimZ (low :: dig m) = dig (low + BB * m) := by
  rw [trimZ_lt (fun z hz => by rcases List.mem_cons.1 hz with rfl | hz; exact hl; exact dig_lt m z hz)]
  simp [val, val_dig]

set_option maxRecDepth 100000 in
theorem r_MulNat (a b : List Nat) (ha : a.length < 2000000000000) (hb : b.length < 2000000000000) : PCall Tryz.prog 75 [tN a, tN b] (tN (dig (vN a * vN b))) := by
  refine pcall_of_wpA mixed Tryz.call75 Tryz.func75 rfl Tryz.ntmps75 Tryz.results75 (by simp) (by decide) ?_
  simp only [go_sem]
  refine call_pure (r_nat a (by omega)) rfl ?_
  simp only [go_sem]
  refine call_pure (r_nat b (by omega)) rfl ?_
  have hxa := held_length a
  have hyb := held_length b
  have hX := IsN_held a
  have hY := IsN_held b
  unfold vN
  generalize held a = x at *
  generalize held b = y at *
  have hx := hX.1
  have hy := hY.1
  ((try simp only [go_sem]); (try simp (disch := omega) only [wrap_i64, wrap_u64, wrap_u32, elemD_lt]); (try simp only [go_sem]); (try simp (disch := omega) only [wrap_i64, wrap_u64, wrap_u32, elemD_lt]); (try simp only [go_sem]))
  refine loop_inv (fun k : Nat => stL 31 [(5, aN x), (6, aN y), (7, aN (dig (val x * val (y.drop k)))), (8, litI .i64 ((k : Int) - 1))] []) (fun k => k ≤ y.length) (fun k => k) y.length ?_ (Nat.le_refl _) ?_
  · refine GStep.trans (gstep_weakS 7 (nl := some true) (xs := []) (by simp only [go_sem])) ?_
    rw [List.drop_length, show val x * val [] = 0 from Nat.mul_zero _, dig_zero]
    refine gstep_list rfl ?_ ?_ rfl rfl <;> ((try simp only [go_sem]); (try simp (disch := omega) only [wrap_i64, wrap_u64, wrap_u32, elemD_lt]); (try simp only [go_sem]); (try simp (disch := omega) only [wrap_i64, wrap_u64, wrap_u32, elemD_lt]); (try simp only [go_sem])) <;> simp
    all_goals rfl
  · intro k hk
    simp only [go_sem]
    refine CondR_if (fun hge => ?_) (fun hge => ?_)
    · obtain ⟨i, rfl⟩ : ∃ i, k = i + 1 := ⟨k - 1, by omega⟩
      have e : ((i + 1 : Nat) : Int) - 1 = (i : Int) := by omega
      have e' : (i : Int) + 1 - 1 = (i : Int) := by omega
      have hi : i < y.length := by omega
      have hyi := hy _ (List.getElem_mem hi)
      have hlen := mul_dig_len (k := i + 1) hx hy
      have hsh := r_shift (dig (val x * val (y.drop (i + 1)))) 0 (by omega)
      rw [shift_dig (by decide), Nat.zero_add] at hsh
      have hsm := r_small x y[i] (by omega) hx hyi
      have hs1 : (dig (y[i] * val x)).length ≤ x.length + 1 := dig_length_le (by
        rw [Nat.pow_succ, Nat.mul_comm]; exact Nat.mul_lt_mul'' (val_lt hx) hyi)
      have hs2 : (dig (BB * (val x * val (y.drop (i + 1))))).length ≤ x.length + y.length + 1 := dig_length_le (by
        have h1 : val x * val (y.drop (i + 1)) < BB ^ (x.length + y.length) := by rw [Nat.pow_add]; exact Nat.mul_lt_mul'' (val_lt hx) (val_drop_lt hy)
        rw [Nat.pow_succ, Nat.mul_comm]; exact Nat.mul_lt_mul_of_pos_right h1 (by decide))
      have had := r_AddNat (dig (BB * (val x * val (y.drop (i + 1))))) (dig (y[i] * val x)) (by omega) (by omega)
      rw [vN_dig, vN_dig] at had
      have hfin : BB * (val x * val (y.drop (i + 1))) + y[i] * val x = val x * val (y.drop i) := by
        rw [List.drop_eq_getElem_cons hi]; simp only [val, Nat.mul_add]
        rw [Nat.mul_comm y[i], ← Nat.mul_assoc, ← Nat.mul_assoc, Nat.mul_comm BB]; omega
      rw [hfin] at had
      have hel : elemD limb y i = limb y[i] := elemD_lt hi
      simp only [BB] at hyi
      generalize y[i] = yi at *
      ((try simp only [go_sem, e, e']); (try simp (disch := omega) only [wrap_i64, wrap_u64, wrap_u32, elemD_lt, e, e']); (try simp only [go_sem, e, e']); (try simp (disch := omega) only [wrap_i64, wrap_u64, wrap_u32, elemD_lt, e, e']); (try simp only [go_sem, e, e']))
      refine regA_by 0 rfl ?_
      ((try simp only [go_sem, e, e']); (try simp (disch := omega) only [wrap_i64, wrap_u64, wrap_u32, elemD_lt, e, e']); (try simp only [go_sem, e, e']); (try simp (disch := omega) only [wrap_i64, wrap_u64, wrap_u32, elemD_lt, e, e']); (try simp only [go_sem, e, e']))
      refine call_pure hsh rfl ?_
      ((try simp only [go_sem, e, e', hel]); (try simp (disch := omega) only [wrap_i64, wrap_u64, wrap_u32, elemD_lt, e, e', hel]); (try simp only [go_sem, e, e', hel]); (try simp (disch := omega) only [wrap_i64, wrap_u64, wrap_u32, elemD_lt, e, e', hel]); (try simp only [go_sem, e, e', hel]))
      refine ⟨by omega, call_pure hsm rfl ?_⟩
      ((try simp only [go_sem, e, e']); (try simp (disch := omega) only [wrap_i64, wrap_u64, wrap_u32, elemD_lt, e, e']); (try simp only [go_sem, e, e']); (try simp (disch := omega) only [wrap_i64, wrap_u64, wrap_u32, elemD_lt, e, e']); (try simp only [go_sem, e, e']))
      refine call_pure had rfl ?_
      ((try simp only [go_sem, e, e']); (try simp (disch := omega) only [wrap_i64, wrap_u64, wrap_u32, elemD_lt, e, e']); (try simp only [go_sem, e, e']); (try simp (disch := omega) only [wrap_i64, wrap_u64, wrap_u32, elemD_lt, e, e']); (try simp only [go_sem, e, e']))
      refine ⟨i, by omega, Nat.lt_succ_self i, ?_⟩
      refine gstep_list rfl ?_ ?_ rfl rfl <;> ((try simp only [go_sem, e, e']); (try simp (disch := omega) only [wrap_i64, wrap_u64, wrap_u32, elemD_lt, e, e']); (try simp only [go_sem, e, e']); (try simp (disch := omega) only [wrap_i64, wrap_u64, wrap_u32, elemD_lt, e, e']); (try simp only [go_sem, e, e'])) <;> simp
    · obtain rfl : k = 0 := by omega
      rw [List.drop_zero]
      simp only [go_sem]
      exact fz_eL
end Go.Proofs.YtgnfgaioeldagaaGreat
namespace Go.Proofs.YtgnfgaioeldagaaGreat
open Go Go.Abs
set_option maxHeartbeats 4000000
theorem ByI.nextV {x qs : List Nat} {n i l q T : Nat} (h : ByI x n (i + 1) qs l) (hi : i < x.length) (hx : x[i] < BB) (hT : T = x[i] + BB * l) (h1 : q * n ≤ T) (h2 : T < (q + 1) * n) : ByI x n i (q :: qs) (T - q * n) := by
  obtain ⟨g1, g2, g3, g4⟩ := h
  rw [Nat.add_mul, Nat.one_mul] at h2
  refine ⟨by simp; omega, fun z hz => ?_, by omega, ?_⟩
  · rcases List.mem_cons.1 hz with rfl | hz
    · rcases Nat.lt_or_ge z BB with h | h
      · exact h
      · exfalso
        have h3 : BB * n ≤ z * n := Nat.mul_le_mul_right _ h
        have h4 : BB * (l + 1) ≤ BB * n := Nat.mul_le_mul_left _ g3
        rw [Nat.mul_add] at h4; omega
    · exact g2 z hz
  · rw [List.drop_eq_getElem_cons hi]
    simp only [val]
    rw [← g4, Nat.add_mul, Nat.mul_add, Nat.mul_assoc]; omega

set_option maxRecDepth 100000 in
theorem r_DivNat (a b : List Nat) (ha : a.length < 2000000000000) (hb : b.length < 2000000000000) : PCall Tryz.prog 166 [tN a, tN b] (.tup [tN (dig (vN a / vN b)), tN (dig (vN a % vN b))]) := by
  refine pcall_of_wpA mixed Tryz.call166 Tryz.func166 rfl Tryz.ntmps166 Tryz.results166 (by simp) (by decide) ?_
  simp only [go_sem]
  refine call_pure (r_nat a (by omega)) rfl ?_
  simp only [go_sem]
  refine call_pure (r_nat b (by omega)) rfl ?_
  have hxa := held_length a
  have hyb := held_length b
  have hX := IsN_held a
  have hY := IsN_held b
  unfold vN
  generalize held a = x at *
  generalize held b = y at *
  have hx := hX.1
  have hy := hY.1
  by_cases hy0 : y = []
  · subst hy0
    simp only [go_sem]
    rw [show val [] = 0 from rfl, Nat.div_zero, Nat.mod_zero, dig_zero, hX.trimZ]
    exact fz_tup2 fz_nil fz_eL
  have hly : 0 < y.length := List.length_pos_iff.2 hy0
  have hy1 : ¬ ((y.length : Int) = 0) := by omega
  have hV : 0 < val y := Nat.pos_of_ne_zero fun h => hy0 ((val_eq_zero hY).1 h)
  have hVl := val_lt hy
  ((try simp only [go_sem, hy1]); (try simp (disch := omega) only [wrap_i64, wrap_u64, wrap_u32, elemD_lt, hy1]); (try simp only [go_sem, hy1]); (try simp (disch := omega) only [wrap_i64, wrap_u64, wrap_u32, elemD_lt, hy1]); (try simp only [go_sem, hy1]))
  refine ⟨by omega, ?_⟩
  refine loop_inv (fun p : Nat × List Nat × Nat => stL 68 [(6, aN x), (7, aN y), (8, .one (.vec 24 1 0 x.length)), (9, aN (dig p.2.2)), (10, litI .i64 ((p.1 : Int) - 1))] [(24, cN (List.replicate p.1 0 ++ p.2.1))])
    (fun p => ByI x (val y) p.1 p.2.1 p.2.2) (fun p => p.1) (x.length, [], 0) ?_ ⟨by simp, by simp, hV, by simp [val]⟩ ?_
  · refine GStep.trans (gstep_weakS 9 (nl := some true) (xs := []) (by simp only [go_sem])) ?_
    rw [dig_zero]
    refine gstep_list rfl ?_ ?_ rfl ?_ <;> ((try simp only [go_sem, cellsL_refs, cN_repl, List.append_nil]); (try simp (disch := omega) only [wrap_i64, wrap_u64, wrap_u32, elemD_lt, cellsL_refs, cN_repl, List.append_nil]); (try simp only [go_sem, cellsL_refs, cN_repl, List.append_nil]); (try simp (disch := omega) only [wrap_i64, wrap_u64, wrap_u32, elemD_lt, cellsL_refs, cN_repl, List.append_nil]); (try simp only [go_sem, cellsL_refs, cN_repl, List.append_nil])) <;> simp
    all_goals rfl
  · rintro ⟨k, qs, R⟩ hs
    simp only at hs ⊢
    have hsl := hs.1
    simp only [go_sem]
    refine CondR_if (fun hge => ?_) (fun hge => ?_)
    · obtain ⟨i, rfl⟩ : ∃ i, k = i + 1 := ⟨k - 1, by omega⟩
      have e : ((i + 1 : Nat) : Int) - 1 = (i : Int) := by omega
      have e' : (i : Int) + 1 - 1 = (i : Int) := by omega
      have hi : i < x.length := by omega
      have hxi := hx _ (List.getElem_mem hi)
      have hR := hs.2.2.1
      have hRl : (dig R).length ≤ y.length := dig_length_le (by omega)
      have hsh := r_shift (dig R) x[i] (by omega)
      rw [shift_dig hxi] at hsh
      have hnx := fun q => hs.nextV (q := q) hi hxi rfl
      have hel : elemD limb x i = limb x[i] := elemD_lt hi
      have hTV : x[i] + BB * R < BB * val y := by
        have : BB * (R + 1) ≤ BB * val y := Nat.mul_le_mul_left _ hR
        rw [Nat.mul_add] at this; omega
      generalize x[i] + BB * R = T at *
      have hTl : (dig T).length ≤ y.length + 1 := dig_length_le (by
        rw [Nat.pow_succ, Nat.mul_comm]; exact Nat.lt_of_lt_of_le hTV (Nat.mul_le_mul_left _ (by omega)))
      simp only [BB] at hxi
      generalize x[i] = xi at *
      ((try simp only [go_sem, e, e', hel]); (try simp (disch := omega) only [wrap_i64, wrap_u64, wrap_u32, elemD_lt, e, e', hel]); (try simp only [go_sem, e, e', hel]); (try simp (disch := omega) only [wrap_i64, wrap_u64, wrap_u32, elemD_lt, e, e', hel]); (try simp only [go_sem, e, e', hel]))
      obtain ⟨B9, hB9⟩ : ∃ B9, B9 = 999999999 := ⟨_, rfl⟩
      have eB9 : (B9 : Int) = 999999999 := by omega
      refine ⟨by omega, call_pure hsh rfl ?_⟩
      ((try simp only [go_sem, e, e']); (try simp (disch := omega) only [wrap_i64, wrap_u64, wrap_u32, elemD_lt, e, e']); (try simp only [go_sem, e, e']); (try simp (disch := omega) only [wrap_i64, wrap_u64, wrap_u32, elemD_lt, e, e']); (try simp only [go_sem, e, e']))
      refine loop_inv (fun p : Nat × Nat => stL 68 [(6, aN x), (7, aN y), (8, .one (.vec 24 1 0 x.length)), (9, aN (dig T)), (10, litI .i64 i), (11, litI .u64 p.1), (12, litI .u64 p.2)] [(24, cN (List.replicate (i + 1) 0 ++ qs))])
        (fun p => p.1 ≤ p.2 ∧ p.2 < BB ∧ p.1 * val y ≤ T ∧ T < (p.2 + 1) * val y) (fun p => p.2 - p.1) (0, B9) ?_ ⟨Nat.zero_le _, by simp only [BB]; omega, by simp, by rw [hB9]; exact hTV⟩ ?_
      · refine gstep_list rfl ?_ ?_ rfl ?_ <;> simp only [go_sem, cellsL_refs, eB9] <;> simp
      · rintro ⟨lo, hi'⟩ ⟨hlh, hhB, hlo, hhi⟩
        simp only at hlh hhB hlo hhi ⊢
        simp only [BB] at hhB
        ((try simp only [go_sem]); (try simp (disch := omega) only [wrap_i64, wrap_u64, wrap_u32, elemD_lt]); (try simp only [go_sem]); (try simp (disch := omega) only [wrap_i64, wrap_u64, wrap_u32, elemD_lt]); (try simp only [go_sem]))
        refine CondR_if (fun hlt => ?_) (fun hlt => ?_)
        · obtain ⟨m, hm⟩ : ∃ m, m = (lo + hi' + 1) / 2 := ⟨_, rfl⟩
          have em : Int.tdiv ((lo : Int) + (hi' : Int) + 1) 2 = (m : Int) := by rw [hm, show (lo : Int) + (hi' : Int) + 1 = ((lo + hi' + 1 : Nat) : Int) by omega]; rfl
          have hsm := r_small y m (by omega) hy (by simp only [BB]; omega)
          have hml : (dig (m * val y)).length ≤ y.length + 1 := dig_length_le (by
            rw [Nat.pow_succ, Nat.mul_comm]; exact Nat.mul_lt_mul'' hVl (by simp only [BB]; omega))
          have hcm := r_CmpNat (dig (m * val y)) (dig T) (by omega) (by omega)
          rw [vN_dig, vN_dig] at hcm
          ((try simp only [go_sem, em]); (try simp (disch := omega) only [wrap_i64, wrap_u64, wrap_u32, elemD_lt, em]); (try simp only [go_sem, em]); (try simp (disch := omega) only [wrap_i64, wrap_u64, wrap_u32, elemD_lt, em]); (try simp only [go_sem, em]))
          refine call_pure hsm rfl ?_
          ((try simp only [go_sem, em]); (try simp (disch := omega) only [wrap_i64, wrap_u64, wrap_u32, elemD_lt, em]); (try simp only [go_sem, em]); (try simp (disch := omega) only [wrap_i64, wrap_u64, wrap_u32, elemD_lt, em]); (try simp only [go_sem, em]))
          refine call_pure hcm rfl ?_
          ((try simp only [go_sem, em]); (try simp (disch := omega) only [wrap_i64, wrap_u64, wrap_u32, elemD_lt, em]); (try simp only [go_sem, em]); (try simp (disch := omega) only [wrap_i64, wrap_u64, wrap_u32, elemD_lt, em]); (try simp only [go_sem, em]))
          refine CondR_if (fun hc => ?_) (fun hc => ?_)
          · have hle : m * val y ≤ T := by
              unfold cmpI at hc; split at hc
              · omega
              · split at hc <;> omega
            ((try simp only [go_sem, em]); (try simp (disch := omega) only [wrap_i64, wrap_u64, wrap_u32, elemD_lt, em]); (try simp only [go_sem, em]); (try simp (disch := omega) only [wrap_i64, wrap_u64, wrap_u32, elemD_lt, em]); (try simp only [go_sem, em]))
            refine ⟨(m, hi'), ⟨by omega, by simp only [BB]; omega, hle, hhi⟩, (by show hi' - m < hi' - lo; omega), ?_⟩
            refine gstep_list rfl ?_ ?_ rfl ?_ <;> ((try simp only [go_sem, cellsL_refs]); (try simp (disch := omega) only [wrap_i64, wrap_u64, wrap_u32, elemD_lt, cellsL_refs]); (try simp only [go_sem, cellsL_refs]); (try simp (disch := omega) only [wrap_i64, wrap_u64, wrap_u32, elemD_lt, cellsL_refs]); (try simp only [go_sem, cellsL_refs])) <;> simp
          · have hgt : T < m * val y := by
              unfold cmpI at hc; split at hc
              · omega
              · split at hc <;> omega
            obtain ⟨p, hp⟩ : ∃ p, p + 1 = m := ⟨m - 1, by omega⟩
            have ep : (m : Int) - 1 = (p : Int) := by omega
            ((try simp only [go_sem, em, ep]); (try simp (disch := omega) only [wrap_i64, wrap_u64, wrap_u32, elemD_lt, em, ep]); (try simp only [go_sem, em, ep]); (try simp (disch := omega) only [wrap_i64, wrap_u64, wrap_u32, elemD_lt, em, ep]); (try simp only [go_sem, em, ep]))
            refine ⟨(lo, p), ⟨by omega, by simp only [BB]; omega, hlo, by rw [hp]; exact hgt⟩, (by show p - lo < hi' - lo; omega), ?_⟩
            refine gstep_list rfl ?_ ?_ rfl ?_ <;> ((try simp only [go_sem, cellsL_refs, ep]); (try simp (disch := omega) only [wrap_i64, wrap_u64, wrap_u32, elemD_lt, cellsL_refs, ep]); (try simp only [go_sem, cellsL_refs, ep]); (try simp (disch := omega) only [wrap_i64, wrap_u64, wrap_u32, elemD_lt, cellsL_refs, ep]); (try simp only [go_sem, cellsL_refs, ep])) <;> simp
        · obtain rfl : hi' = lo := by omega
          have hn := hnx _ hlo hhi
          have hsm := r_small y hi' (by omega) hy (by simp only [BB]; omega)
          have hml : (dig (hi' * val y)).length ≤ y.length + 1 := dig_length_le (by
            rw [Nat.pow_succ, Nat.mul_comm]; exact Nat.mul_lt_mul'' hVl (by simp only [BB]; omega))
          have hsb := r_SubNat (dig T) (dig (hi' * val y)) (by omega) (by omega)
          rw [vN_dig, vN_dig] at hsb
          have hw : i < (List.replicate (i + 1) 0 ++ qs).length := by simp; omega
          ((try simp only [go_sem]); (try simp (disch := omega) only [wrap_i64, wrap_u64, wrap_u32, elemD_lt]); (try simp only [go_sem]); (try simp (disch := omega) only [wrap_i64, wrap_u64, wrap_u32, elemD_lt]); (try simp only [go_sem]))
          refine ⟨⟨by omega, by omega⟩, by rw [cN_len]; omega, ?_⟩
          refine call_pure hsm rfl ?_
          ((try simp only [go_sem]); (try simp (disch := omega) only [wrap_i64, wrap_u64, wrap_u32, elemD_lt]); (try simp only [go_sem]); (try simp (disch := omega) only [wrap_i64, wrap_u64, wrap_u32, elemD_lt]); (try simp only [go_sem]))
          refine call_pure hsb rfl ?_
          ((try simp only [go_sem]); (try simp (disch := omega) only [wrap_i64, wrap_u64, wrap_u32, elemD_lt]); (try simp only [go_sem]); (try simp (disch := omega) only [wrap_i64, wrap_u64, wrap_u32, elemD_lt]); (try simp only [go_sem]))
          refine ⟨(i, hi' :: qs, T - hi' * val y), hn, Nat.lt_succ_self i, ?_⟩
          refine gstep_list rfl ?_ ?_ rfl ?_ <;> ((try simp only [go_sem, cellsL_refs, cN_sd hw, set_down]); (try simp (disch := omega) only [wrap_i64, wrap_u64, wrap_u32, elemD_lt, cellsL_refs, cN_sd hw, set_down]); (try simp only [go_sem, cellsL_refs, cN_sd hw, set_down]); (try simp (disch := omega) only [wrap_i64, wrap_u64, wrap_u32, elemD_lt, cellsL_refs, cN_sd hw, set_down]); (try simp only [go_sem, cellsL_refs, cN_sd hw, set_down])) <;> simp
    · obtain rfl : k = 0 := by omega
      have hdn := hs.done
      have hdl : qs.length = x.length := by omega
      rw [List.replicate_zero, List.nil_append]
      simp only [go_sem]
      refine call_frz 24 1 x.length rfl (r_trim qs (by omega)) (by simp only [go_sem] <;> rfl) (by rw [← hdl]; exact treeOf_L limb_len) ?_ ?_
      · simp only [go_sem, hdl] <;> rfl
      · simp only [go_sem]
        rw [hdn.1, hdn.2]
        exact fz_tup2 fz_eL fz_eL
end Go.Proofs.YtgnfgaioeldagaaGreat
