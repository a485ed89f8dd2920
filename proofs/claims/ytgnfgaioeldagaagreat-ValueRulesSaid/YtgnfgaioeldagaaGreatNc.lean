/- At every input the call answers true and leaves its arguments as they were; no conditions. -/
import Derived.Test.YtgnfgaioeldagaaGreatNb
import Derived.Test.YtgnfgaioeldagaaGreatMc
set_option linter.unusedSimpArgs false
set_option linter.unusedVariables false
namespace Go.Proofs.YtgnfgaioeldagaaGreat
open Go Go.Abs

/-- A long division under way: k digits to come. -/
structure DivI (X V N : Nat) (n k : Nat) (qs U : List Nat) : Prop where
  ul : U.length = N
  u : ∀ z ∈ U, z < BB
  q : ∀ z ∈ qs, z < BB
  e : BB ^ k * val qs * V + val U = X
  lt : val (U.drop k) < V
  fit : k + n + 2 ≤ N

section
variable {X V N n j : Nat} {qs U : List Nat}
theorem DivI.part (h : DivI X V N n (j + 1) qs U) (hV : V < BB ^ (n + 2)) : ∃ A u B, U = A ++ u ++ B ∧ A.length = j ∧ u.length = n + 3 ∧ val u < BB * V ∧ val B = 0 ∧ U = A ++ (u ++ B) ∧ (∀ z ∈ u, z < BB) := by
  have hf := h.fit
  have hl := h.ul
  have hj : j < U.length := by omega
  refine ⟨U.take j, (U.drop j).take (n + 3), (U.drop j).drop (n + 3), ?_, ?_, ?_, ?_, ?_, ?_, ?_⟩
  · rw [List.append_assoc, List.take_append_drop, List.take_append_drop]
  · rw [List.length_take]; omega
  · rw [List.length_take, List.length_drop]; omega
  · rw [List.drop_eq_getElem_cons hj, List.take_succ_cons]
    simp only [val]
    have h1 := h.u _ (List.getElem_mem hj)
    have h2 : val ((U.drop (j + 1)).take (n + 2)) ≤ val (U.drop (j + 1)) := by
      conv => rhs; rw [← List.take_append_drop (n + 2) (U.drop (j + 1)), val_append]
      omega
    have h3 := h.lt
    have h4 : BB * (val ((U.drop (j + 1)).take (n + 2)) + 1) ≤ BB * V := Nat.mul_le_mul_left _ (by omega)
    rw [Nat.mul_add] at h4; omega
  · have h3 := h.lt
    rw [← List.take_append_drop (n + 2) (U.drop (j + 1)), val_append, List.length_take, List.length_drop, Nat.min_eq_left (by omega), List.drop_drop] at h3
    rw [List.drop_drop, show j + (n + 3) = j + 1 + (n + 2) by omega]
    rcases Nat.eq_zero_or_pos (val (U.drop (j + 1 + (n + 2)))) with h0 | h0
    · exact h0
    · have : BB ^ (n + 2) * 1 ≤ BB ^ (n + 2) * val (U.drop (j + 1 + (n + 2))) := Nat.mul_le_mul_left _ h0
      omega
  · rw [List.take_append_drop, List.take_append_drop]
  · exact fun z hz => h.u z (List.mem_of_mem_drop (List.mem_of_mem_take hz))
theorem DivI.next {A u B : List Nat} (h : DivI X V N n (j + 1) qs (A ++ u ++ B)) (hV : V < BB ^ (n + 2)) (hV0 : 0 < V) (hA : A.length = j) (hu : u.length = n + 3) (hlt : val u < BB * V) (hB : val B = 0) :
    DivI X V N n j (val u / V :: qs) (A ++ pad u.length (val u % V) ++ B) := by
  have hr := Nat.mod_lt (val u) hV0
  have hp : BB ^ (n + 2) ≤ BB ^ (n + 3) := Nat.pow_le_pow_right (by decide) (by omega)
  have hvp : val (pad u.length (val u % V)) = val u % V := val_pad (by rw [hu]; omega)
  refine ⟨?_, ?_, ?_, ?_, ?_, ?_⟩
  · have := h.ul; simpa [pad_len] using this
  · intro z hz
    simp only [List.mem_append] at hz
    rcases hz with (hz | hz) | hz
    · exact h.u z (by simp [hz])
    · exact pad_lt z hz
    · exact h.u z (by simp [hz])
  · intro z hz
    rcases List.mem_cons.1 hz with rfl | hz
    · rw [Nat.div_lt_iff_lt_mul hV0]; exact hlt
    · exact h.q z hz
  · have he := h.e
    rw [val_append, val_append, hB, Nat.mul_zero, Nat.add_zero, hA] at he ⊢
    rw [hvp, ← he]
    have hd := Nat.div_add_mod (val u) V
    have e1 := congrArg (BB ^ j * ·) hd
    simp only [Nat.mul_add] at e1
    simp only [val]
    have e2 : BB ^ j * (val u / V + BB * val qs) * V = BB ^ j * (V * (val u / V)) + BB ^ (j + 1) * val qs * V := by
      rw [Nat.mul_add, Nat.add_mul, Nat.pow_succ, Nat.mul_assoc, Nat.mul_comm (val u / V), Nat.mul_assoc (BB ^ j) BB]
    rw [e2]; omega
  · rw [List.append_assoc, ← hA, List.drop_left, val_append, hvp, hB]
    simpa using hr
  · have := h.fit; omega
end
end Go.Proofs.YtgnfgaioeldagaaGreat
namespace Go.Proofs.YtgnfgaioeldagaaGreat
open Go Go.Abs
set_option maxHeartbeats 1000000

/-- What the divisor is scaled by, what it is then. -/
theorem scale {y : List Nat} {n : Nat} (hy : IsN y) (hl : y.length = n + 2) : ∃ d, d = 1000000000 / (y[n + 1] + 1) ∧ 1 ≤ d ∧ d < BB ∧ (dig (val y * d)).length = n + 2 ∧ BB ^ (n + 1) ≤ val y ∧ val y * d < BB ^ (n + 2) := by
  have h1 := hy.1 y[n + 1] (List.getElem_mem _)
  have h2 := val_ge hy (by intro e; rw [e] at hl; simp at hl)
  rw [hl, show n + 2 - 1 = n + 1 from rfl] at h2
  have h0 : y[n + 1] ≠ 0 := by
    have := hy.2
    rw [List.getLast?_eq_getElem?, List.getElem?_eq_getElem (by omega)] at this
    simpa [hl] using this
  refine ⟨_, rfl, ?_, ?_, ?_, h2, ?_⟩
  · rw [Nat.le_div_iff_mul_le (by omega)]; simp only [BB] at h1; omega
  · exact Nat.lt_of_le_of_lt (Nat.div_le_div_left (show 2 ≤ y[n + 1] + 1 by omega) (by decide)) (by decide)
  all_goals
    have h3 : 1 ≤ 1000000000 / (y[n + 1] + 1) := by rw [Nat.le_div_iff_mul_le (by omega)]; simp only [BB] at h1; omega
    have h4 : (y[n + 1] + 1) * (1000000000 / (y[n + 1] + 1)) ≤ BB := Nat.mul_div_le _ _
    generalize 1000000000 / (y[n + 1] + 1) = d at *
    have h5 : val y < BB ^ (n + 1) * (y[n + 1] + 1) := by
      have h6 := val_split (xs := y) (i := n + 1) (by omega)
      have h7 := val_lt (xs := y.take (n + 1)) fun z hz => hy.1 z (List.mem_of_mem_take hz)
      rw [List.length_take, Nat.min_eq_left (by omega)] at h7
      rw [List.drop_eq_nil_of_le (by omega)] at h6
      simp only [val, Nat.mul_zero, Nat.add_zero] at h6
      rw [Nat.mul_add]; omega
    have h8 : val y * d < BB ^ (n + 2) := by
      have h9 : val y * d < BB ^ (n + 1) * (y[n + 1] + 1) * d := Nat.mul_lt_mul_of_pos_right h5 h3
      rw [Nat.mul_assoc] at h9
      exact Nat.lt_of_lt_of_le h9 (by rw [Nat.pow_succ BB (n + 1)]; exact Nat.mul_le_mul_left _ h4)
  · have h10 := dig_length_le h8
    rcases Nat.lt_or_ge (dig (val y * d)).length (n + 2) with h | h
    · exfalso
      have h11 := val_lt (dig_lt (val y * d))
      rw [val_dig] at h11
      have h12 : BB ^ (dig (val y * d)).length ≤ BB ^ (n + 1) := Nat.pow_le_pow_right (by decide) (by omega)
      have h13 : val y * 1 ≤ val y * d := Nat.mul_le_mul_left _ h3
      omega
    · omega
  · exact h8

set_option maxRecDepth 100000 in
theorem p_nat_Div (a b : List Nat) (ha : a.length < 1000000000000) (hb : b.length < 1000000000000) : PCall Tryz.prog 163 [tN a, tN b] (.tup [tN (dig (vN a / vN b)), tN (dig (vN a % vN b))]) := by
  refine pcall_of_wpA mixed Tryz.call163 Tryz.func163 rfl Tryz.ntmps163 Tryz.results163 (by simp) (by decide) ?_
  simp only [go_sem]
  refine call_pure (p_nat_held a (by omega)) rfl ?_
  simp only [go_sem]
  refine call_pure (p_nat_held b (by omega)) rfl ?_
  have hxa := held_length a
  have hyb := held_length b
  have hX := IsN_held a
  have hY := IsN_held b
  have eA : vN (held a) = vN a := by rw [← dig_vN, vN_dig]
  have eB : vN (held b) = vN b := by rw [← dig_vN, vN_dig]
  have eA' : vN a = val (held a) := rfl
  have eB' : vN b = val (held b) := rfl
  have hCmp := p_nat_Cmp (held a) (held b) (by omega) (by omega)
  have hMul := fun d hd => p_nat_Mul (held b) d (by omega) hd
  have hNew := fun d hd => f_nat_Mul (held a) d (by omega) hd
  rw [eA, eB] at hCmp
  rw [eB] at hMul
  rw [eA] at hNew
  rw [eA', eB'] at *
  clear eA eB eA' eB'
  generalize held a = x at *
  generalize held b = y at *
  have hx := hX.1
  have hy := hY.1
  have hClone := p_Clone x (by omega)
  by_cases hy0 : y = []
  · subst hy0
    simp only [go_sem]
    refine call_pure hClone rfl ?_
    simp only [go_sem]
    rw [show val [] = 0 from rfl, Nat.div_zero, Nat.mod_zero, dig_zero, hX.trimZ]
    exact fz_tup2 fz_nil fz_eL
  have hly : 0 < y.length := List.length_pos_iff.2 hy0
  have hy1 : ¬ ((y.length : Int) = 0) := by omega
  simp only [go_sem, hy1]
  refine call_pure hCmp rfl ?_
  by_cases hlt : val x < val y
  · have hcmp : cmpI (val x) (val y) = -1 := by unfold cmpI; rw [if_pos (by omega)]
    rw [hcmp]
    simp only [go_sem]
    refine call_pure hClone rfl ?_
    simp only [go_sem]
    rw [Nat.div_eq_of_lt hlt, Nat.mod_eq_of_lt hlt, dig_zero, hX.trimZ]
    exact fz_tup2 fz_nil fz_eL
  have hcmp : ¬ (cmpI (val x) (val y) < 0) := by unfold cmpI; rw [if_neg (by omega)]; split <;> omega
  simp only [go_sem, hcmp]
  by_cases hy2 : y.length = 1
  · obtain ⟨y0, rfl⟩ : ∃ y0, y = [y0] := by
      match y, hy2 with
      | [y0], _ => exact ⟨y0, rfl⟩
    have hy0' := hy y0 (by simp)
    have hne : y0 ≠ 0 := by have := hY.2; simpa using this
    have hel : elemD limb [y0] 0 = limb y0 := elemD_lt (by simp)
    have hmod : val x % y0 < y0 := Nat.mod_lt _ (by omega)
    have hv0 : val [y0] = y0 := by simp [val]
    rw [hv0]
    have hby := p_nat_by x y0 (by omega) hx (by omega) hy0'
    simp only [BB] at hy0'
    generalize val x % y0 = r at *
    generalize val x / y0 = q at *
    ((try simp only [go_sem, hel]); (try simp (disch := omega) only [wrap_i64, wrap_u64, wrap_u32, elemD_lt, hel]); (try simp only [go_sem, hel]); (try simp (disch := omega) only [wrap_i64, wrap_u64, wrap_u32, elemD_lt, hel]); (try simp only [go_sem, hel]))
    refine call_pure hby rfl ?_
    ((try simp only [go_sem]); (try simp (disch := omega) only [wrap_i64, wrap_u64, wrap_u32, elemD_lt]); (try simp only [go_sem]); (try simp (disch := omega) only [wrap_i64, wrap_u64, wrap_u32, elemD_lt]); (try simp only [go_sem]))
    refine call_pure (p_nat_Of r (by omega)) rfl ?_
    simp only [go_sem]
    exact fz_tup2 fz_eL fz_eL
  have hy3 : ¬ ((y.length : Int) = 1) := by omega
  obtain ⟨n, hn⟩ : ∃ n, y.length = n + 2 := ⟨y.length - 2, by omega⟩
  obtain ⟨d, hd, hd1, hd2, hvl, hVge, hVlt⟩ := scale hY hn
  obtain ⟨m1, hm1⟩ : ∃ m1, m1 = n + 1 := ⟨_, rfl⟩
  have htop : y[m1]'(by omega) = y[n + 1] := by subst hm1; rfl
  have htb := hy _ (List.getElem_mem (show n + 1 < y.length by omega))
  generalize y[n + 1] = t at *
  have j1 : (y.length : Int) - 1 = (m1 : Int) := by omega
  have ed : Int.tdiv 1000000000 ((t : Int) + 1) = (d : Int) := by rw [hd]; rfl
  have htb' := htb
  have hd2' := hd2
  simp only [BB] at htb' hd2'
  have hdd : dig d = [d] := by rw [dig_pos (by omega), Nat.mod_eq_of_lt hd2, Nat.div_eq_of_lt hd2, dig_zero]
  have hvd : vN [d] = d := by rw [← hdd, vN_dig]
  have hxpos : val x ≠ 0 := by
    have : 0 < BB ^ (n + 1) := Nat.pow_pos (by decide)
    omega
  have hOf := p_nat_Of d (by omega)
  rw [hdd] at hOf
  replace hNew := hNew [d] (by simp) hxpos (by rw [hvd]; omega)
  replace hMul := hMul [d] (by simp)
  rw [hvd] at hNew hMul
  have hxlen : (dig (val x * d)).length ≤ x.length + 1 := dig_length_le (by
    have h1 := val_lt hx
    rw [Nat.pow_succ]; exact Nat.mul_lt_mul_of_lt_of_le h1 (by omega) (by omega))
  have hvdig := dig_lt (val y * d)
  have hudig := dig_lt (val x * d)
  have hvN := IsN_dig (val y * d)
  have hvv := val_dig (val y * d)
  have huv := val_dig (val x * d)
  obtain ⟨v, hv⟩ : ∃ v, v = dig (val y * d) := ⟨_, rfl⟩
  obtain ⟨u, hu⟩ : ∃ u, u = dig (val x * d) := ⟨_, rfl⟩
  rw [← hv] at hvl hMul hvdig hvN hvv
  rw [← hu] at hNew hxlen hudig huv
  clear hv hu
  ((try simp only [go_sem, hy3, j1, htop, ed]); (try simp (disch := omega) only [wrap_i64, wrap_u64, wrap_u32, elemD_lt, hy3, j1, htop, ed]); (try simp only [go_sem, hy3, j1, htop, ed]); (try simp (disch := omega) only [wrap_i64, wrap_u64, wrap_u32, elemD_lt, hy3, j1, htop, ed]); (try simp only [go_sem, hy3, j1, htop, ed]))
  refine ⟨⟨by omega, by omega⟩, fun _ => by omega, ?_⟩
  refine call_pure hOf rfl ?_
  ((try simp only [go_sem]); (try simp (disch := omega) only [wrap_i64, wrap_u64, wrap_u32, elemD_lt]); (try simp only [go_sem]); (try simp (disch := omega) only [wrap_i64, wrap_u64, wrap_u32, elemD_lt]); (try simp only [go_sem]))
  refine call_new 59 (by decide) hNew rfl (by simp only [go_sem]) (by decide) ?_
  ((try simp only [go_sem]); (try simp (disch := omega) only [wrap_i64, wrap_u64, wrap_u32, elemD_lt]); (try simp only [go_sem]); (try simp (disch := omega) only [wrap_i64, wrap_u64, wrap_u32, elemD_lt]); (try simp only [go_sem]))
  refine call_pure hMul rfl ?_
  have eL : (x.length : Int) + 1 - (u.length : Int) = ((x.length + 1 - u.length : Nat) : Int) := by omega
  have hLe : u.length + (x.length + 1 - u.length) = x.length + 1 := by omega
  ((try simp only [go_sem, eL]); (try simp (disch := omega) only [wrap_i64, wrap_u64, wrap_u32, elemD_lt, eL]); (try simp only [go_sem, eL]); (try simp (disch := omega) only [wrap_i64, wrap_u64, wrap_u32, elemD_lt, eL]); (try simp only [go_sem, eL]))
  refine opA_appM (Nat.le_refl _) (sz := 1) (bytes := 4) (f := limb) 0 (L := x.length + 1 - u.length) (by simp only [go_sem, AppTyM] <;> decide) limb_len u (by simp only [go_sem] <;> rfl) rfl (by simp only [go_sem] <;> rfl) (by simp only [go_sem] <;> rfl) (by rw [hLe]; omega) (by decide) ?_
  rw [hLe]
  generalize hU : u ++ List.replicate (x.length + 1 - u.length) 0 = U
  have hUl : U.length = x.length + 1 := by rw [← hU, List.length_append, List.length_replicate, hLe]
  have hUv : val U = val x * d := by rw [← hU, val_append, val_replicate, huv]; simp
  have hUd : ∀ z ∈ U, z < BB := fun z hz => by
    rw [← hU] at hz
    rcases List.mem_append.1 hz with hz | hz
    · exact hudig z hz
    · rw [List.eq_of_mem_replicate hz]; decide
  obtain ⟨N, hN⟩ : ∃ N, N = x.length + 1 := ⟨_, rfl⟩
  obtain ⟨m, hm⟩ : ∃ m, m = x.length - y.length + 1 := ⟨_, rfl⟩
  have hyx : y.length ≤ x.length := by
    rcases Nat.lt_or_ge x.length y.length with h | h
    · exact absurd (val_lt_len hX hY h) hlt
    · exact h
  have em : (x.length : Int) - (y.length : Int) + 1 = (m : Int) := by omega
  rw [← hN]
  have hvlt : val v < BB ^ (n + 2) := by rw [hvv]; exact hVlt
  have hvpos : 0 < val v := by
    rw [hvv]; have : 0 < BB ^ (n + 1) := Nat.pow_pos (by decide)
    exact Nat.mul_pos (by omega) (by omega)
  have hv1 : v[n + 1] ≠ 0 := by
    have := hvN.2
    rw [List.getLast?_eq_getElem?, List.getElem?_eq_getElem (by omega)] at this
    simpa [hvl] using this
  have hstart : DivI (val x * d) (val v) N n m [] U := by
    refine ⟨by omega, hUd, by simp, by rw [← hUv]; simp [val], ?_, by omega⟩
    have h1 : U = U.take m ++ U.drop m := (List.take_append_drop m U).symm
    have h2 := congrArg val h1
    rw [val_append, List.length_take, Nat.min_eq_left (by omega), hUv] at h2
    have h3 := val_lt hx
    have h4 : val x * d < BB ^ x.length * d := Nat.mul_lt_mul_of_pos_right h3 (by omega)
    have h5 : BB ^ x.length * d ≤ BB ^ m * val v := by
      rw [hvv, show x.length = m + (n + 1) by omega, Nat.pow_add, Nat.mul_assoc]
      exact Nat.mul_le_mul_left _ (Nat.mul_le_mul_right _ hVge)
    have h6 : BB ^ m * val (U.drop m) < BB ^ m * val v := by omega
    exact Nat.lt_of_mul_lt_mul_left h6
  ((try simp only [go_sem, em]); (try simp (disch := omega) only [wrap_i64, wrap_u64, wrap_u32, elemD_lt, em]); (try simp only [go_sem, em]); (try simp (disch := omega) only [wrap_i64, wrap_u64, wrap_u32, elemD_lt, em]); (try simp only [go_sem, em]))
  refine ⟨by omega, ?_⟩
  obtain ⟨m', hm'⟩ : ∃ m', m = m' + 1 := ⟨m - 1, by omega⟩
  have em' : (m : Int) - 1 = (m' : Int) := by omega
  rw [hm'] at hstart
  refine loop_inv (fun p : Nat × List Nat × List Nat => match p.1 with
      | 0 => stL 110 [(8, aN [d]), (9, aN p.2.2), (10, aN v), (11, .one (.vec 77 1 0 m)), (12, litI .i64 (-1))] [(77, cN p.2.1)]
      | j + 1 => stL 110 [(8, aN [d]), (9, .one (.vec 59 1 0 N)), (10, aN v), (11, .one (.vec 77 1 0 m)), (12, litI .i64 (j : Int))] [(59, cN p.2.2), (77, cN (List.replicate (j + 1) 0 ++ p.2.1))])
    (fun p => p.1 + p.2.1.length = m ∧ DivI (val x * d) (val v) N n p.1 p.2.1 p.2.2) (fun p => p.1) (m' + 1, [], U) ?_ ⟨by simp; omega, hstart⟩ ?_
  · refine gstep_list rfl ?_ ?_ rfl ?_ <;> ((try simp only [go_sem, em, em', cellsL_refs, cN_repl, List.append_nil]); (try simp (disch := omega) only [wrap_i64, wrap_u64, wrap_u32, elemD_lt, em, em', cellsL_refs, cN_repl, List.append_nil]); (try simp only [go_sem, em, em', cellsL_refs, cN_repl, List.append_nil]); (try simp (disch := omega) only [wrap_i64, wrap_u64, wrap_u32, elemD_lt, em, em', cellsL_refs, cN_repl, List.append_nil]); (try simp only [go_sem, em, em', cellsL_refs, cN_repl, List.append_nil])) <;> simp [hm']
  · rintro ⟨k, qs, U⟩ ⟨hkl, hs⟩
    simp only at hkl hs ⊢
    cases k with
    | succ j =>
      simp only
      have hfit := hs.fit
      obtain ⟨A, u, B, hU, hA, hul, hult, hB0, hU', hud⟩ := hs.part hvlt
      have hUl := hs.ul
      rw [hU] at hs
      have hnx := hs.next hvlt hvpos hA hul hult hB0
      rw [hU'] at hUl ⊢
      have hUlen : (A ++ u ++ B).length = N := by rw [List.append_assoc]; exact hUl
      have hdig := m_nat_digit A u B v n (by omega) hud hvdig hul hvl hult hv1
      obtain ⟨H, hH⟩ : ∃ H, H = j + v.length + 1 := ⟨_, rfl⟩
      have eH : (j : Int) + (v.length : Int) + 1 = (H : Int) := by omega
      have eHu : H - j = u.length := by omega
      have hqlt := hnx.q _ (List.mem_cons_self ..)
      simp only [BB] at hqlt
      generalize val u / val v = q at *
      have hj0 : (0 : Int) ≤ (j : Int) := by omega
      have hw : j < (List.replicate (j + 1) 0 ++ qs).length := by simp; omega
      ((try simp only [go_sem, eH, hj0, show (0 : Int) ≤ (H : Int) by omega, eHu]); (try simp (disch := omega) only [wrap_i64, wrap_u64, wrap_u32, elemD_lt, eH, hj0, show (0 : Int) ≤ (H : Int) by omega, eHu]); (try simp only [go_sem, eH, hj0, show (0 : Int) ≤ (H : Int) by omega, eHu]); (try simp (disch := omega) only [wrap_i64, wrap_u64, wrap_u32, elemD_lt, eH, hj0, show (0 : Int) ≤ (H : Int) by omega, eHu]); (try simp only [go_sem, eH, hj0, show (0 : Int) ≤ (H : Int) by omega, eHu]))
      refine ⟨⟨by omega, by omega, by omega⟩, ?_⟩
      refine call_mutG 59 (by decide) hdig (by simp only [go_sem] <;> rfl) (by simp only [go_sem, hA] <;> rfl) (backs_sc rfl) cN_tree cN_tree ?_
      ((try simp only [go_sem, hj0]); (try simp (disch := omega) only [wrap_i64, wrap_u64, wrap_u32, elemD_lt, hj0]); (try simp only [go_sem, hj0]); (try simp (disch := omega) only [wrap_i64, wrap_u64, wrap_u32, elemD_lt, hj0]); (try simp only [go_sem, hj0]))
      refine ⟨by omega, by rw [cN_len]; omega, ?_⟩
      refine ⟨(j, q :: qs, A ++ pad u.length (val u % val v) ++ B), ⟨by simp; omega, hnx⟩, Nat.lt_succ_self j, ?_⟩
      cases j with
      | succ i =>
        have e : ((i + 1 : Nat) : Int) - 1 = (i : Int) := by omega
        have e' : (i : Int) + 1 - 1 = (i : Int) := by omega
        refine gstep_list rfl ?_ ?_ rfl ?_ <;> ((try simp only [go_sem, e, e', cellsL_refs, cN_sd hw, set_down]); (try simp (disch := omega) only [wrap_i64, wrap_u64, wrap_u32, elemD_lt, e, e', cellsL_refs, cN_sd hw, set_down]); (try simp only [go_sem, e, e', cellsL_refs, cN_sd hw, set_down]); (try simp (disch := omega) only [wrap_i64, wrap_u64, wrap_u32, elemD_lt, e, e', cellsL_refs, cN_sd hw, set_down]); (try simp only [go_sem, e, e', cellsL_refs, cN_sd hw, set_down])) <;> simp
      | zero =>
        refine GStep.trans (gstep_frz (b := 59) (sz := 1) (len := N) (x := eN (A ++ (pad u.length (val u % val v) ++ B))) (by simp only [go_sem] <;> rfl) (by have h7 := hnx.ul; rw [List.append_assoc] at h7; rw [← h7]; exact treeOf_L limb_len)) ?_
        refine gstep_list rfl ?_ ?_ rfl ?_ <;> ((try simp only [go_sem, cellsL_refs, cN_sd hw, set_down]); (try simp (disch := omega) only [wrap_i64, wrap_u64, wrap_u32, elemD_lt, cellsL_refs, cN_sd hw, set_down]); (try simp only [go_sem, cellsL_refs, cN_sd hw, set_down]); (try simp (disch := omega) only [wrap_i64, wrap_u64, wrap_u32, elemD_lt, cellsL_refs, cN_sd hw, set_down]); (try simp only [go_sem, cellsL_refs, cN_sd hw, set_down])) <;> simp <;> rw [cellsL_fC] <;> rfl
    | zero =>
      simp only
      have hdl : qs.length = m := by omega
      have hUl := hs.ul
      simp only [go_sem]
      have he := hs.e
      have hlt0 := hs.lt
      rw [Nat.pow_zero, Nat.one_mul] at he
      rw [List.drop_zero] at hlt0
      have hvp : 0 < val v := hvpos
      have hq : val qs = val x / val y := by
        have h1 : val x * d / val v = val qs := by rw [← he, Nat.mul_comm, Nat.mul_add_div hvp, Nat.div_eq_of_lt hlt0, Nat.add_zero]
        rw [← h1, hvv, Nat.mul_div_mul_right _ _ (by omega)]
      have hr : val U = val x % val y * d := by
        have h1 : val x * d % val v = val U := by rw [← he, Nat.mul_comm, Nat.mul_add_mod, Nat.mod_eq_of_lt hlt0]
        rw [← h1, hvv, Nat.mul_mod_mul_right]
      have htU := trimZ_lt hs.u
      have htr := p_nat_trim U (by omega)
      rw [htU] at htr
      have hdlen : (dig (val U)).length ≤ U.length := dig_length_le (val_lt hs.u)
      have hby := p_nat_by (dig (val U)) d (by omega) (dig_lt _) (by omega) hd2
      rw [val_dig, hr, Nat.mul_div_cancel _ (show 0 < d by omega), ← hr] at hby
      have hel : elemD limb [d] 0 = limb d := elemD_lt (by simp)
      have htq := trimZ_lt hs.q
      rw [hq] at htq
      refine regA_by 0 rfl ?_
      simp only [go_sem]
      refine call_pure htr rfl ?_
      simp only [go_sem, hel]
      refine call_pure hby rfl ?_
      simp only [go_sem]
      refine call_frz 77 1 m rfl (p_nat_trim qs (by omega)) (by simp only [go_sem] <;> rfl) (by rw [← hdl]; exact treeOf_L limb_len) ?_ ?_
      · simp only [go_sem, hdl] <;> rfl
      · simp only [go_sem]
        rw [htq]
        exact fz_tup2 fz_eL fz_eL
end Go.Proofs.YtgnfgaioeldagaaGreat
