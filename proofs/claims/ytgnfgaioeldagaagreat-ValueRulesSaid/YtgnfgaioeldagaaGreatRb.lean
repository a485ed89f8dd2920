/- At every input the call answers true and leaves its arguments as they were; no conditions. -/
import Derived.Test.YtgnfgaioeldagaaGreatRa
set_option linter.unusedSimpArgs false
set_option linter.unusedVariables false
namespace Go.Proofs.YtgnfgaioeldagaaGreat
open Go Go.Abs
set_option maxHeartbeats 4000000

theorem SumI.fin {x y ds : List Nat} {k : Nat} (hs : SumI [x, y] k ds 0) (h : ∀ a ∈ [x, y], ∀ z ∈ a, z < BB) (hx : x.length ≤ k) (hy : y.length ≤ k) : trimZ ds = dig (val x + val y) := by
  obtain ⟨h1, h2, h3, h4⟩ := hs
  rw [Nat.mul_zero, Nat.add_zero] at h4
  rw [trimZ_lt h2, h4]
  simp [low, List.take_of_length_le hx, List.take_of_length_le hy]
set_option maxRecDepth 100000 in
theorem r_AddNat (a b : List Nat) (ha : a.length < 5000000000000) (hb : b.length < 5000000000000) : PCall Tryz.prog 73 [tN a, tN b] (tN (dig (vN a + vN b))) := by
  refine pcall_of_wpA mixed Tryz.call73 Tryz.func73 rfl Tryz.ntmps73 Tryz.results73 (by simp) (by decide) ?_
  simp only [go_sem]
  refine call_pure (r_nat a (by omega)) rfl ?_
  simp only [go_sem]
  refine call_pure (r_nat b (by omega)) rfl ?_
  have hxa := held_length a
  have hyb := held_length b
  have hX := IsN_held a
  have hY := IsN_held b
  unfold vN
  generalize held a = x at *
  generalize held b = y at *
  have hx := hX.1
  have hy := hY.1
  have hxy : ∀ z ∈ [x, y], ∀ w ∈ z, w < BB := fun z hz => by
    rcases List.mem_cons.1 hz with rfl | hz
    · exact hx
    · obtain rfl := List.mem_singleton.1 hz; exact hy
  obtain ⟨M, hM⟩ : ∃ M, M = max x.length y.length := ⟨_, rfl⟩
  have eM : (if (y.length : Int) > (x.length : Int) then (y.length : Int) else (x.length : Int)) = (M : Int) := by split <;> omega
  simp only [go_sem]
  refine loop_inv (fun p : List Nat × Nat => match p.1 with
      | [] => stL 59 [(5, aN x), (6, aN y), (7, .one (.t (.seq (some true) []))), (8, litI .u64 p.2), (9, litI .i64 0)] []
      | _ :: _ => stL 59 [(5, aN x), (6, aN y), (7, .one (.vec 54 1 0 p.1.length)), (8, litI .u64 p.2), (9, litI .i64 p.1.length)] [(54, cN p.1)])
    (fun p => p.1.length ≤ M + 1 ∧ SumI [x, y] p.1.length p.1 p.2 ∧ (M < p.1.length → p.2 = 0)) (fun p => M + 1 - p.1.length) ([], 0) ?_ ⟨Nat.zero_le _, ⟨rfl, by simp, Nat.zero_le _, by rw [List.length_nil, low_zero]; rfl⟩, fun _ => rfl⟩ ?_
  · refine gstep_list rfl ?_ ?_ rfl ?_ <;> simp only [go_sem] <;> simp
  · rintro ⟨ds, c⟩ ⟨hdl, hs, hz⟩
    simp only at hdl hs hz
    have hc2 : c ≤ 2 := hs.2.2.1
    have hnx := hs.next hxy
    cases ds with
    | nil =>
      simp only [List.length_nil] at *
      simp only [go_sem]
      refine opA_max rfl (by simp only [go_sem] <;> rfl) (by simp only [go_sem] <;> rfl) (Nat.le_refl _) ?_
      rw [eM]
      by_cases hlt : 0 < M
      · have hltI : (0 : Int) < (M : Int) := by omega
        by_cases ha : 0 < x.length
        · by_cases hb : 0 < y.length
          · -- both
            have haI : (0 : Int) < (x.length : Int) := by omega
            have hbI : (0 : Int) < (y.length : Int) := by omega
            have hxi := hx _ (List.getElem_mem ha)
            have hel : elemD limb x (0) = limb x[0] := elemD_lt ha
            simp only [BB] at hxi
            have hyi := hy _ (List.getElem_mem hb)
            have hel2 : elemD limb y (0) = limb y[0] := elemD_lt hb
            simp only [BB] at hyi
            have gx : x.getD (0) 0 = x[0] := by simp [ha]
            generalize x[0] = xi at *
            have gy : y.getD (0) 0 = y[0] := by simp [hb]
            generalize y[0] = yi at *
            obtain ⟨t, ht⟩ : ∃ t, t = c + xi + yi := ⟨_, rfl⟩
            have et : (c : Int) + (xi : Int) + (yi : Int) = (t : Int) := by omega
            have hcol : c + col [x, y] (0) = t := by simp only [col, List.map_cons, List.map_nil, List.sum_cons, List.sum_nil, gx, gy]; omega
            rw [hcol] at hnx
            have htb : t < 1000000000000 := by omega
            have htm : t % 1000000000 < 1000000000 := Nat.mod_lt _ (by decide)
            ((try simp only [go_sem, hltI, haI, hbI, hel, hel2, et, tmodB, tdivB]); (try simp (disch := omega) only [wrap_i64, wrap_u64, wrap_u32, elemD_lt, hltI, haI, hbI, hel, hel2, et, tmodB, tdivB]); (try simp only [go_sem, hltI, haI, hbI, hel, hel2, et, tmodB, tdivB]); (try simp (disch := omega) only [wrap_i64, wrap_u64, wrap_u32, elemD_lt, hltI, haI, hbI, hel, hel2, et, tmodB, tdivB]); (try simp only [go_sem, hltI, haI, hbI, hel, hel2, et, tmodB, tdivB]))
            refine opA_app_nil (Nat.le_refl _) (sz := 1) (bytes := 4) (by simp only [go_sem, AppTy] <;> decide) limb_len [t % 1000000000] (by simp only [go_sem] <;> rfl) (by simp only [go_sem] <;> rfl) rfl (by simp) (by simp) (by simp only [go_sem]) (by decide) ?_
            ((try simp only [go_sem, tdivB]); (try simp (disch := omega) only [wrap_i64, wrap_u64, wrap_u32, elemD_lt, tdivB]); (try simp only [go_sem, tdivB]); (try simp (disch := omega) only [wrap_i64, wrap_u64, wrap_u32, elemD_lt, tdivB]); (try simp only [go_sem, tdivB]))
            refine ⟨(([] : List Nat) ++ [t % 1000000000], t / 1000000000), ⟨by simp only [List.length_append, List.length_cons, List.length_nil] at *; omega, by simpa [BB] using hnx, fun h => by simp only [List.length_append, List.length_cons, List.length_nil] at *; omega⟩, (by show M + 1 - (([] : List Nat) ++ [t % 1000000000]).length < M + 1 - ([] : List Nat).length; simp only [List.length_append, List.length_cons, List.length_nil] at *; omega), ?_⟩
            refine gstep_list rfl ?_ ?_ rfl ?_ <;> ((try simp only [go_sem, cellsL_refs, List.length_append, List.length_cons, List.length_nil]); (try simp (disch := omega) only [wrap_i64, wrap_u64, wrap_u32, elemD_lt, cellsL_refs, List.length_append, List.length_cons, List.length_nil]); (try simp only [go_sem, cellsL_refs, List.length_append, List.length_cons, List.length_nil]); (try simp (disch := omega) only [wrap_i64, wrap_u64, wrap_u32, elemD_lt, cellsL_refs, List.length_append, List.length_cons, List.length_nil]); (try simp only [go_sem, cellsL_refs, List.length_append, List.length_cons, List.length_nil])) <;> simp
          · -- one
            have haI : (0 : Int) < (x.length : Int) := by omega
            have hbI : ¬ (0 : Int) < (y.length : Int) := by omega
            have hxi := hx _ (List.getElem_mem ha)
            have hel : elemD limb x (0) = limb x[0] := elemD_lt ha
            simp only [BB] at hxi
            have gx : x.getD (0) 0 = x[0] := by simp [ha]
            generalize x[0] = xi at *
            have gy : y.getD (0) 0 = 0 := by simp [show y.length ≤ 0 by omega]
            obtain ⟨t, ht⟩ : ∃ t, t = c + xi := ⟨_, rfl⟩
            have et : (c : Int) + (xi : Int) = (t : Int) := by omega
            have hcol : c + col [x, y] (0) = t := by simp only [col, List.map_cons, List.map_nil, List.sum_cons, List.sum_nil, gx, gy]; omega
            rw [hcol] at hnx
            have htb : t < 1000000000000 := by omega
            have htm : t % 1000000000 < 1000000000 := Nat.mod_lt _ (by decide)
            ((try simp only [go_sem, hltI, haI, hbI, hel, et, tmodB, tdivB]); (try simp (disch := omega) only [wrap_i64, wrap_u64, wrap_u32, elemD_lt, hltI, haI, hbI, hel, et, tmodB, tdivB]); (try simp only [go_sem, hltI, haI, hbI, hel, et, tmodB, tdivB]); (try simp (disch := omega) only [wrap_i64, wrap_u64, wrap_u32, elemD_lt, hltI, haI, hbI, hel, et, tmodB, tdivB]); (try simp only [go_sem, hltI, haI, hbI, hel, et, tmodB, tdivB]))
            refine opA_app_nil (Nat.le_refl _) (sz := 1) (bytes := 4) (by simp only [go_sem, AppTy] <;> decide) limb_len [t % 1000000000] (by simp only [go_sem] <;> rfl) (by simp only [go_sem] <;> rfl) rfl (by simp) (by simp) (by simp only [go_sem]) (by decide) ?_
            ((try simp only [go_sem, tdivB]); (try simp (disch := omega) only [wrap_i64, wrap_u64, wrap_u32, elemD_lt, tdivB]); (try simp only [go_sem, tdivB]); (try simp (disch := omega) only [wrap_i64, wrap_u64, wrap_u32, elemD_lt, tdivB]); (try simp only [go_sem, tdivB]))
            refine ⟨(([] : List Nat) ++ [t % 1000000000], t / 1000000000), ⟨by simp only [List.length_append, List.length_cons, List.length_nil] at *; omega, by simpa [BB] using hnx, fun h => by simp only [List.length_append, List.length_cons, List.length_nil] at *; omega⟩, (by show M + 1 - (([] : List Nat) ++ [t % 1000000000]).length < M + 1 - ([] : List Nat).length; simp only [List.length_append, List.length_cons, List.length_nil] at *; omega), ?_⟩
            refine gstep_list rfl ?_ ?_ rfl ?_ <;> ((try simp only [go_sem, cellsL_refs, List.length_append, List.length_cons, List.length_nil]); (try simp (disch := omega) only [wrap_i64, wrap_u64, wrap_u32, elemD_lt, cellsL_refs, List.length_append, List.length_cons, List.length_nil]); (try simp only [go_sem, cellsL_refs, List.length_append, List.length_cons, List.length_nil]); (try simp (disch := omega) only [wrap_i64, wrap_u64, wrap_u32, elemD_lt, cellsL_refs, List.length_append, List.length_cons, List.length_nil]); (try simp only [go_sem, cellsL_refs, List.length_append, List.length_cons, List.length_nil])) <;> simp
        · have hb : 0 < y.length := by omega
          have haI : ¬ (0 : Int) < (x.length : Int) := by omega
          have hbI : (0 : Int) < (y.length : Int) := by omega
          have hyi := hy _ (List.getElem_mem hb)
          have hel2 : elemD limb y (0) = limb y[0] := elemD_lt hb
          simp only [BB] at hyi
          have gx : x.getD (0) 0 = 0 := by simp [show x.length ≤ 0 by omega]
          have gy : y.getD (0) 0 = y[0] := by simp [hb]
          generalize y[0] = yi at *
          obtain ⟨t, ht⟩ : ∃ t, t = c + yi := ⟨_, rfl⟩
          have et : (c : Int) + (yi : Int) = (t : Int) := by omega
          have hcol : c + col [x, y] (0) = t := by simp only [col, List.map_cons, List.map_nil, List.sum_cons, List.sum_nil, gx, gy]; omega
          rw [hcol] at hnx
          have htb : t < 1000000000000 := by omega
          have htm : t % 1000000000 < 1000000000 := Nat.mod_lt _ (by decide)
          ((try simp only [go_sem, hltI, haI, hbI, hel2, et, tmodB, tdivB]); (try simp (disch := omega) only [wrap_i64, wrap_u64, wrap_u32, elemD_lt, hltI, haI, hbI, hel2, et, tmodB, tdivB]); (try simp only [go_sem, hltI, haI, hbI, hel2, et, tmodB, tdivB]); (try simp (disch := omega) only [wrap_i64, wrap_u64, wrap_u32, elemD_lt, hltI, haI, hbI, hel2, et, tmodB, tdivB]); (try simp only [go_sem, hltI, haI, hbI, hel2, et, tmodB, tdivB]))
          refine opA_app_nil (Nat.le_refl _) (sz := 1) (bytes := 4) (by simp only [go_sem, AppTy] <;> decide) limb_len [t % 1000000000] (by simp only [go_sem] <;> rfl) (by simp only [go_sem] <;> rfl) rfl (by simp) (by simp) (by simp only [go_sem]) (by decide) ?_
          ((try simp only [go_sem, tdivB]); (try simp (disch := omega) only [wrap_i64, wrap_u64, wrap_u32, elemD_lt, tdivB]); (try simp only [go_sem, tdivB]); (try simp (disch := omega) only [wrap_i64, wrap_u64, wrap_u32, elemD_lt, tdivB]); (try simp only [go_sem, tdivB]))
          refine ⟨(([] : List Nat) ++ [t % 1000000000], t / 1000000000), ⟨by simp only [List.length_append, List.length_cons, List.length_nil] at *; omega, by simpa [BB] using hnx, fun h => by simp only [List.length_append, List.length_cons, List.length_nil] at *; omega⟩, (by show M + 1 - (([] : List Nat) ++ [t % 1000000000]).length < M + 1 - ([] : List Nat).length; simp only [List.length_append, List.length_cons, List.length_nil] at *; omega), ?_⟩
          refine gstep_list rfl ?_ ?_ rfl ?_ <;> ((try simp only [go_sem, cellsL_refs, List.length_append, List.length_cons, List.length_nil]); (try simp (disch := omega) only [wrap_i64, wrap_u64, wrap_u32, elemD_lt, cellsL_refs, List.length_append, List.length_cons, List.length_nil]); (try simp only [go_sem, cellsL_refs, List.length_append, List.length_cons, List.length_nil]); (try simp (disch := omega) only [wrap_i64, wrap_u64, wrap_u32, elemD_lt, cellsL_refs, List.length_append, List.length_cons, List.length_nil]); (try simp only [go_sem, cellsL_refs, List.length_append, List.length_cons, List.length_nil])) <;> simp
      · have hltI : ¬ (0 : Int) < (M : Int) := by omega
        by_cases hc0 : c = 0
        · subst hc0
          have hdn := hs.fin hxy (by omega) (by omega)
          ((try simp only [go_sem, hltI]); (try simp (disch := omega) only [wrap_i64, wrap_u64, wrap_u32, elemD_lt, hltI]); (try simp only [go_sem, hltI]); (try simp (disch := omega) only [wrap_i64, wrap_u64, wrap_u32, elemD_lt, hltI]); (try simp only [go_sem, hltI]))
          refine call_fz (tvs' := [.one (.seq (some true) [])]) (r_trim [] (by simp)) rfl (.cons fzW .nil) ?_
          simp only [go_sem]
          rw [hdn]; exact fz_eL
        · have hdx : 0 = M := by
            rcases Nat.lt_or_ge M (0) with h | h
            · exact absurd (hz h) hc0
            · omega
          have haI : ¬ (0 : Int) < (x.length : Int) := by omega
          have hbI : ¬ (0 : Int) < (y.length : Int) := by omega
          have gx : x.getD (0) 0 = 0 := by simp [show x.length ≤ 0 by omega]
          have gy : y.getD (0) 0 = 0 := by simp [show y.length ≤ 0 by omega]
          obtain ⟨t, ht⟩ : ∃ t, t = c := ⟨_, rfl⟩
          have et : (c : Int) = (t : Int) := by omega
          have hcol : c + col [x, y] (0) = t := by simp only [col, List.map_cons, List.map_nil, List.sum_cons, List.sum_nil, gx, gy]; omega
          rw [hcol] at hnx
          have htb : t < 1000000000000 := by omega
          have htm : t % 1000000000 < 1000000000 := Nat.mod_lt _ (by decide)
          have htz : t / 1000000000 = 0 := Nat.div_eq_of_lt (by omega)
          have hcp : (0 : Int) < (c : Int) := by omega
          have htp : (0 : Int) < (t : Int) := by omega
          ((try simp only [go_sem, hltI, haI, hbI, hcp, htp, et, tmodB, tdivB]); (try simp (disch := omega) only [wrap_i64, wrap_u64, wrap_u32, elemD_lt, hltI, haI, hbI, hcp, htp, et, tmodB, tdivB]); (try simp only [go_sem, hltI, haI, hbI, hcp, htp, et, tmodB, tdivB]); (try simp (disch := omega) only [wrap_i64, wrap_u64, wrap_u32, elemD_lt, hltI, haI, hbI, hcp, htp, et, tmodB, tdivB]); (try simp only [go_sem, hltI, haI, hbI, hcp, htp, et, tmodB, tdivB]))
          refine opA_app_nil (Nat.le_refl _) (sz := 1) (bytes := 4) (by simp only [go_sem, AppTy] <;> decide) limb_len [t % 1000000000] (by simp only [go_sem] <;> rfl) (by simp only [go_sem] <;> rfl) rfl (by simp) (by simp) (by simp only [go_sem]) (by decide) ?_
          ((try simp only [go_sem, tdivB]); (try simp (disch := omega) only [wrap_i64, wrap_u64, wrap_u32, elemD_lt, tdivB]); (try simp only [go_sem, tdivB]); (try simp (disch := omega) only [wrap_i64, wrap_u64, wrap_u32, elemD_lt, tdivB]); (try simp only [go_sem, tdivB]))
          refine ⟨(([] : List Nat) ++ [t % 1000000000], t / 1000000000), ⟨by simp only [List.length_append, List.length_cons, List.length_nil] at *; omega, by simpa [BB] using hnx, fun h => by simp only [List.length_append, List.length_cons, List.length_nil] at *; omega⟩, (by show M + 1 - (([] : List Nat) ++ [t % 1000000000]).length < M + 1 - ([] : List Nat).length; simp only [List.length_append, List.length_cons, List.length_nil] at *; omega), ?_⟩
          refine gstep_list rfl ?_ ?_ rfl ?_ <;> ((try simp only [go_sem, cellsL_refs, List.length_append, List.length_cons, List.length_nil]); (try simp (disch := omega) only [wrap_i64, wrap_u64, wrap_u32, elemD_lt, cellsL_refs, List.length_append, List.length_cons, List.length_nil]); (try simp only [go_sem, cellsL_refs, List.length_append, List.length_cons, List.length_nil]); (try simp (disch := omega) only [wrap_i64, wrap_u64, wrap_u32, elemD_lt, cellsL_refs, List.length_append, List.length_cons, List.length_nil]); (try simp only [go_sem, cellsL_refs, List.length_append, List.length_cons, List.length_nil])) <;> simp
    | cons d0 l =>
      simp only [List.length_cons] at *
      simp only [go_sem]
      refine opA_max rfl (by simp only [go_sem] <;> rfl) (by simp only [go_sem] <;> rfl) (Nat.le_refl _) ?_
      rw [eM]
      have htn : ((l.length : Int) + 1).toNat = l.length + 1 := by omega
      by_cases hlt : l.length + 1 < M
      · have hltI : (l.length : Int) + 1 < (M : Int) := by omega
        by_cases ha : l.length + 1 < x.length
        · by_cases hb : l.length + 1 < y.length
          · -- both
            have haI : (l.length : Int) + 1 < (x.length : Int) := by omega
            have hbI : (l.length : Int) + 1 < (y.length : Int) := by omega
            have hxi := hx _ (List.getElem_mem ha)
            have hel : elemD limb x (l.length + 1) = limb x[l.length + 1] := elemD_lt ha
            simp only [BB] at hxi
            have hyi := hy _ (List.getElem_mem hb)
            have hel2 : elemD limb y (l.length + 1) = limb y[l.length + 1] := elemD_lt hb
            simp only [BB] at hyi
            have gx : x.getD (l.length + 1) 0 = x[l.length + 1] := by simp [ha]
            generalize x[l.length + 1] = xi at *
            have gy : y.getD (l.length + 1) 0 = y[l.length + 1] := by simp [hb]
            generalize y[l.length + 1] = yi at *
            obtain ⟨t, ht⟩ : ∃ t, t = c + xi + yi := ⟨_, rfl⟩
            have et : (c : Int) + (xi : Int) + (yi : Int) = (t : Int) := by omega
            have hcol : c + col [x, y] (l.length + 1) = t := by simp only [col, List.map_cons, List.map_nil, List.sum_cons, List.sum_nil, gx, gy]; omega
            rw [hcol] at hnx
            have htb : t < 1000000000000 := by omega
            have htm : t % 1000000000 < 1000000000 := Nat.mod_lt _ (by decide)
            ((try simp only [go_sem, hltI, haI, hbI, hel, hel2, htn, et, tmodB, tdivB]); (try simp (disch := omega) only [wrap_i64, wrap_u64, wrap_u32, elemD_lt, hltI, haI, hbI, hel, hel2, htn, et, tmodB, tdivB]); (try simp only [go_sem, hltI, haI, hbI, hel, hel2, htn, et, tmodB, tdivB]); (try simp (disch := omega) only [wrap_i64, wrap_u64, wrap_u32, elemD_lt, hltI, haI, hbI, hel, hel2, htn, et, tmodB, tdivB]); (try simp only [go_sem, hltI, haI, hbI, hel, hel2, htn, et, tmodB, tdivB]))
            refine ⟨by omega, by omega, ?_⟩
            refine opA_app_vec (Nat.le_refl _) (sz := 1) (bytes := 4) (by simp only [go_sem, AppTy] <;> decide) limb_len (d0 :: l) [t % 1000000000] (by simp only [go_sem] <;> rfl) rfl (by simp only [go_sem]) (by simp only [go_sem] <;> rfl) rfl (by simp only [List.length_cons] at *; simp; omega) (by decide) ?_
            ((try simp only [go_sem, tdivB]); (try simp (disch := omega) only [wrap_i64, wrap_u64, wrap_u32, elemD_lt, tdivB]); (try simp only [go_sem, tdivB]); (try simp (disch := omega) only [wrap_i64, wrap_u64, wrap_u32, elemD_lt, tdivB]); (try simp only [go_sem, tdivB]))
            refine ⟨((d0 :: l) ++ [t % 1000000000], t / 1000000000), ⟨by simp only [List.length_append, List.length_cons, List.length_nil] at *; omega, by simpa [BB] using hnx, fun h => by simp only [List.length_append, List.length_cons, List.length_nil] at *; omega⟩, (by show M + 1 - ((d0 :: l) ++ [t % 1000000000]).length < M + 1 - (d0 :: l).length; simp only [List.length_append, List.length_cons, List.length_nil] at *; omega), ?_⟩
            refine gstep_list rfl ?_ ?_ rfl ?_ <;> ((try simp only [go_sem, cellsL_refs, List.length_append, List.length_cons, List.length_nil]); (try simp (disch := omega) only [wrap_i64, wrap_u64, wrap_u32, elemD_lt, cellsL_refs, List.length_append, List.length_cons, List.length_nil]); (try simp only [go_sem, cellsL_refs, List.length_append, List.length_cons, List.length_nil]); (try simp (disch := omega) only [wrap_i64, wrap_u64, wrap_u32, elemD_lt, cellsL_refs, List.length_append, List.length_cons, List.length_nil]); (try simp only [go_sem, cellsL_refs, List.length_append, List.length_cons, List.length_nil])) <;> simp
          · -- one
            have haI : (l.length : Int) + 1 < (x.length : Int) := by omega
            have hbI : ¬ (l.length : Int) + 1 < (y.length : Int) := by omega
            have hxi := hx _ (List.getElem_mem ha)
            have hel : elemD limb x (l.length + 1) = limb x[l.length + 1] := elemD_lt ha
            simp only [BB] at hxi
            have gx : x.getD (l.length + 1) 0 = x[l.length + 1] := by simp [ha]
            generalize x[l.length + 1] = xi at *
            have gy : y.getD (l.length + 1) 0 = 0 := by simp [show y.length ≤ l.length + 1 by omega]
            obtain ⟨t, ht⟩ : ∃ t, t = c + xi := ⟨_, rfl⟩
            have et : (c : Int) + (xi : Int) = (t : Int) := by omega
            have hcol : c + col [x, y] (l.length + 1) = t := by simp only [col, List.map_cons, List.map_nil, List.sum_cons, List.sum_nil, gx, gy]; omega
            rw [hcol] at hnx
            have htb : t < 1000000000000 := by omega
            have htm : t % 1000000000 < 1000000000 := Nat.mod_lt _ (by decide)
            ((try simp only [go_sem, hltI, haI, hbI, hel, htn, et, tmodB, tdivB]); (try simp (disch := omega) only [wrap_i64, wrap_u64, wrap_u32, elemD_lt, hltI, haI, hbI, hel, htn, et, tmodB, tdivB]); (try simp only [go_sem, hltI, haI, hbI, hel, htn, et, tmodB, tdivB]); (try simp (disch := omega) only [wrap_i64, wrap_u64, wrap_u32, elemD_lt, hltI, haI, hbI, hel, htn, et, tmodB, tdivB]); (try simp only [go_sem, hltI, haI, hbI, hel, htn, et, tmodB, tdivB]))
            refine ⟨by omega, ?_⟩
            refine opA_app_vec (Nat.le_refl _) (sz := 1) (bytes := 4) (by simp only [go_sem, AppTy] <;> decide) limb_len (d0 :: l) [t % 1000000000] (by simp only [go_sem] <;> rfl) rfl (by simp only [go_sem]) (by simp only [go_sem] <;> rfl) rfl (by simp only [List.length_cons] at *; simp; omega) (by decide) ?_
            ((try simp only [go_sem, tdivB]); (try simp (disch := omega) only [wrap_i64, wrap_u64, wrap_u32, elemD_lt, tdivB]); (try simp only [go_sem, tdivB]); (try simp (disch := omega) only [wrap_i64, wrap_u64, wrap_u32, elemD_lt, tdivB]); (try simp only [go_sem, tdivB]))
            refine ⟨((d0 :: l) ++ [t % 1000000000], t / 1000000000), ⟨by simp only [List.length_append, List.length_cons, List.length_nil] at *; omega, by simpa [BB] using hnx, fun h => by simp only [List.length_append, List.length_cons, List.length_nil] at *; omega⟩, (by show M + 1 - ((d0 :: l) ++ [t % 1000000000]).length < M + 1 - (d0 :: l).length; simp only [List.length_append, List.length_cons, List.length_nil] at *; omega), ?_⟩
            refine gstep_list rfl ?_ ?_ rfl ?_ <;> ((try simp only [go_sem, cellsL_refs, List.length_append, List.length_cons, List.length_nil]); (try simp (disch := omega) only [wrap_i64, wrap_u64, wrap_u32, elemD_lt, cellsL_refs, List.length_append, List.length_cons, List.length_nil]); (try simp only [go_sem, cellsL_refs, List.length_append, List.length_cons, List.length_nil]); (try simp (disch := omega) only [wrap_i64, wrap_u64, wrap_u32, elemD_lt, cellsL_refs, List.length_append, List.length_cons, List.length_nil]); (try simp only [go_sem, cellsL_refs, List.length_append, List.length_cons, List.length_nil])) <;> simp
        · have hb : l.length + 1 < y.length := by omega
          have haI : ¬ (l.length : Int) + 1 < (x.length : Int) := by omega
          have hbI : (l.length : Int) + 1 < (y.length : Int) := by omega
          have hyi := hy _ (List.getElem_mem hb)
          have hel2 : elemD limb y (l.length + 1) = limb y[l.length + 1] := elemD_lt hb
          simp only [BB] at hyi
          have gx : x.getD (l.length + 1) 0 = 0 := by simp [show x.length ≤ l.length + 1 by omega]
          have gy : y.getD (l.length + 1) 0 = y[l.length + 1] := by simp [hb]
          generalize y[l.length + 1] = yi at *
          obtain ⟨t, ht⟩ : ∃ t, t = c + yi := ⟨_, rfl⟩
          have et : (c : Int) + (yi : Int) = (t : Int) := by omega
          have hcol : c + col [x, y] (l.length + 1) = t := by simp only [col, List.map_cons, List.map_nil, List.sum_cons, List.sum_nil, gx, gy]; omega
          rw [hcol] at hnx
          have htb : t < 1000000000000 := by omega
          have htm : t % 1000000000 < 1000000000 := Nat.mod_lt _ (by decide)
          ((try simp only [go_sem, hltI, haI, hbI, hel2, htn, et, tmodB, tdivB]); (try simp (disch := omega) only [wrap_i64, wrap_u64, wrap_u32, elemD_lt, hltI, haI, hbI, hel2, htn, et, tmodB, tdivB]); (try simp only [go_sem, hltI, haI, hbI, hel2, htn, et, tmodB, tdivB]); (try simp (disch := omega) only [wrap_i64, wrap_u64, wrap_u32, elemD_lt, hltI, haI, hbI, hel2, htn, et, tmodB, tdivB]); (try simp only [go_sem, hltI, haI, hbI, hel2, htn, et, tmodB, tdivB]))
          refine ⟨by omega, ?_⟩
          refine opA_app_vec (Nat.le_refl _) (sz := 1) (bytes := 4) (by simp only [go_sem, AppTy] <;> decide) limb_len (d0 :: l) [t % 1000000000] (by simp only [go_sem] <;> rfl) rfl (by simp only [go_sem]) (by simp only [go_sem] <;> rfl) rfl (by simp only [List.length_cons] at *; simp; omega) (by decide) ?_
          ((try simp only [go_sem, tdivB]); (try simp (disch := omega) only [wrap_i64, wrap_u64, wrap_u32, elemD_lt, tdivB]); (try simp only [go_sem, tdivB]); (try simp (disch := omega) only [wrap_i64, wrap_u64, wrap_u32, elemD_lt, tdivB]); (try simp only [go_sem, tdivB]))
          refine ⟨((d0 :: l) ++ [t % 1000000000], t / 1000000000), ⟨by simp only [List.length_append, List.length_cons, List.length_nil] at *; omega, by simpa [BB] using hnx, fun h => by simp only [List.length_append, List.length_cons, List.length_nil] at *; omega⟩, (by show M + 1 - ((d0 :: l) ++ [t % 1000000000]).length < M + 1 - (d0 :: l).length; simp only [List.length_append, List.length_cons, List.length_nil] at *; omega), ?_⟩
          refine gstep_list rfl ?_ ?_ rfl ?_ <;> ((try simp only [go_sem, cellsL_refs, List.length_append, List.length_cons, List.length_nil]); (try simp (disch := omega) only [wrap_i64, wrap_u64, wrap_u32, elemD_lt, cellsL_refs, List.length_append, List.length_cons, List.length_nil]); (try simp only [go_sem, cellsL_refs, List.length_append, List.length_cons, List.length_nil]); (try simp (disch := omega) only [wrap_i64, wrap_u64, wrap_u32, elemD_lt, cellsL_refs, List.length_append, List.length_cons, List.length_nil]); (try simp only [go_sem, cellsL_refs, List.length_append, List.length_cons, List.length_nil])) <;> simp
      · have hltI : ¬ (l.length : Int) + 1 < (M : Int) := by omega
        by_cases hc0 : c = 0
        · subst hc0
          have hdn := hs.fin hxy (by omega) (by omega)
          ((try simp only [go_sem, hltI]); (try simp (disch := omega) only [wrap_i64, wrap_u64, wrap_u32, elemD_lt, hltI]); (try simp only [go_sem, hltI]); (try simp (disch := omega) only [wrap_i64, wrap_u64, wrap_u32, elemD_lt, hltI]); (try simp only [go_sem, hltI]))
          refine call_frz 54 1 (l.length + 1) rfl (r_trim (d0 :: l) (by simp only [List.length_cons] at *; omega)) (by simp only [go_sem] <;> rfl) (by rw [show l.length + 1 = (d0 :: l).length from rfl]; exact treeOf_L limb_len) ?_ ?_
          · simp only [go_sem] <;> rfl
          · simp only [go_sem]
            rw [hdn]; exact fz_eL
        · have hdx : l.length + 1 = M := by
            rcases Nat.lt_or_ge M (l.length + 1) with h | h
            · exact absurd (hz h) hc0
            · omega
          have haI : ¬ (l.length : Int) + 1 < (x.length : Int) := by omega
          have hbI : ¬ (l.length : Int) + 1 < (y.length : Int) := by omega
          have gx : x.getD (l.length + 1) 0 = 0 := by simp [show x.length ≤ l.length + 1 by omega]
          have gy : y.getD (l.length + 1) 0 = 0 := by simp [show y.length ≤ l.length + 1 by omega]
          obtain ⟨t, ht⟩ : ∃ t, t = c := ⟨_, rfl⟩
          have et : (c : Int) = (t : Int) := by omega
          have hcol : c + col [x, y] (l.length + 1) = t := by simp only [col, List.map_cons, List.map_nil, List.sum_cons, List.sum_nil, gx, gy]; omega
          rw [hcol] at hnx
          have htb : t < 1000000000000 := by omega
          have htm : t % 1000000000 < 1000000000 := Nat.mod_lt _ (by decide)
          have htz : t / 1000000000 = 0 := Nat.div_eq_of_lt (by omega)
          have hcp : (0 : Int) < (c : Int) := by omega
          have htp : (0 : Int) < (t : Int) := by omega
          ((try simp only [go_sem, hltI, haI, hbI, htn, hcp, htp, et, tmodB, tdivB]); (try simp (disch := omega) only [wrap_i64, wrap_u64, wrap_u32, elemD_lt, hltI, haI, hbI, htn, hcp, htp, et, tmodB, tdivB]); (try simp only [go_sem, hltI, haI, hbI, htn, hcp, htp, et, tmodB, tdivB]); (try simp (disch := omega) only [wrap_i64, wrap_u64, wrap_u32, elemD_lt, hltI, haI, hbI, htn, hcp, htp, et, tmodB, tdivB]); (try simp only [go_sem, hltI, haI, hbI, htn, hcp, htp, et, tmodB, tdivB]))
          refine opA_app_vec (Nat.le_refl _) (sz := 1) (bytes := 4) (by simp only [go_sem, AppTy] <;> decide) limb_len (d0 :: l) [t % 1000000000] (by simp only [go_sem] <;> rfl) rfl (by simp only [go_sem]) (by simp only [go_sem] <;> rfl) rfl (by simp only [List.length_cons] at *; simp; omega) (by decide) ?_
          ((try simp only [go_sem, tdivB]); (try simp (disch := omega) only [wrap_i64, wrap_u64, wrap_u32, elemD_lt, tdivB]); (try simp only [go_sem, tdivB]); (try simp (disch := omega) only [wrap_i64, wrap_u64, wrap_u32, elemD_lt, tdivB]); (try simp only [go_sem, tdivB]))
          refine ⟨((d0 :: l) ++ [t % 1000000000], t / 1000000000), ⟨by simp only [List.length_append, List.length_cons, List.length_nil] at *; omega, by simpa [BB] using hnx, fun h => by simp only [List.length_append, List.length_cons, List.length_nil] at *; omega⟩, (by show M + 1 - ((d0 :: l) ++ [t % 1000000000]).length < M + 1 - (d0 :: l).length; simp only [List.length_append, List.length_cons, List.length_nil] at *; omega), ?_⟩
          refine gstep_list rfl ?_ ?_ rfl ?_ <;> ((try simp only [go_sem, cellsL_refs, List.length_append, List.length_cons, List.length_nil]); (try simp (disch := omega) only [wrap_i64, wrap_u64, wrap_u32, elemD_lt, cellsL_refs, List.length_append, List.length_cons, List.length_nil]); (try simp only [go_sem, cellsL_refs, List.length_append, List.length_cons, List.length_nil]); (try simp (disch := omega) only [wrap_i64, wrap_u64, wrap_u32, elemD_lt, cellsL_refs, List.length_append, List.length_cons, List.length_nil]); (try simp only [go_sem, cellsL_refs, List.length_append, List.length_cons, List.length_nil])) <;> simp
end Go.Proofs.YtgnfgaioeldagaaGreat
namespace Go.Proofs.YtgnfgaioeldagaaGreat
open Go Go.Abs
set_option maxHeartbeats 4000000

set_option maxRecDepth 100000 in
theorem r_SubNat (a b : List Nat) (ha : a.length < 5000000000000) (hb : b.length < 5000000000000) : PCall Tryz.prog 74 [tN a, tN b] (tN (dig (vN a - vN b))) := by
  refine pcall_of_wpA mixed Tryz.call74 Tryz.func74 rfl Tryz.ntmps74 Tryz.results74 (by simp) (by decide) ?_
  simp only [go_sem]
  refine call_pure (r_nat a (by omega)) rfl ?_
  simp only [go_sem]
  refine call_pure (r_nat b (by omega)) rfl ?_
  simp only [go_sem]
  have hxa := held_length a
  have hyb := held_length b
  have hX := IsN_held a
  have hY := IsN_held b
  refine call_pure (r_CmpNat (held a) (held b) (by omega) (by omega)) rfl ?_
  rw [show vN (held a) = vN a by rw [← dig_vN, vN_dig], show vN (held b) = vN b by rw [← dig_vN, vN_dig]]
  simp only [go_sem]
  refine CondR_if (fun hle => ?_) (fun hgt => ?_)
  · simp only [go_sem]
    have : vN a ≤ vN b := by
      unfold cmpI at hle; split at hle
      · omega
      · split at hle <;> omega
    rw [show vN a - vN b = 0 by omega, dig_zero]; exact fz_nil
  · have hlt : vN b < vN a := by
      unfold cmpI at hgt; split at hgt
      · omega
      · split at hgt <;> omega
    clear hgt
    unfold vN at hlt ⊢
    generalize held a = x at *
    generalize held b = y at *
    have hyx : y.length ≤ x.length := by
      rcases Nat.lt_or_ge x.length y.length with h | h
      · have := val_lt_len hX hY h; omega
      · exact h
    have hx := hX.1
    have hy := hY.1
    simp only [go_sem]
    refine loop_inv (fun p : List Nat × Nat => match p.1 with
        | [] => stL 54 [(5, aN x), (6, aN y), (7, .one (.t (.seq (some true) []))), (8, litI .i64 p.2), (9, litI .i64 0)] []
        | _ :: _ => stL 54 [(5, aN x), (6, aN y), (7, .one (.vec 51 1 0 p.1.length)), (8, litI .i64 p.2), (9, litI .i64 p.1.length)] [(51, cN p.1)])
      (fun p => p.1.length ≤ x.length ∧ SubI x y p.1.length p.1 p.2) (fun p => x.length - p.1.length) ([], 0) ?_ ⟨Nat.zero_le _, rfl, by simp, Nat.zero_le _, by simp [val]⟩ ?_
    · refine gstep_list rfl ?_ ?_ rfl ?_ <;> simp only [go_sem] <;> simp
    · rintro ⟨ds, c⟩ ⟨hdl, hs⟩
      simp only at hdl hs
      have hc := hs.2.2.1
      cases ds with
      | nil =>
        simp only [List.length_nil] at *
        by_cases hl0 : 0 < x.length
        · have hlI : (0 : Int) < (x.length : Int) := by omega
          have hxi := hx _ (List.getElem_mem hl0)
          have hel : elemD limb x (0) = limb x[0] := elemD_lt hl0
          have gx : x.getD (0) 0 = x[0] := by simp [hl0]
          simp only [BB] at hxi
          generalize x[0] = xi at *
          by_cases hb : 0 < y.length
          · have hbI : (0 : Int) < (y.length : Int) := by omega
            have hyi := hy _ (List.getElem_mem hb)
            have hel2 : elemD limb y (0) = limb y[0] := elemD_lt hb
            have gy : y.getD (0) 0 = y[0] := by simp [hb]
            simp only [BB] at hyi
            generalize y[0] = yi at *
            by_cases hng : xi < c + yi
            · obtain ⟨e, he⟩ : ∃ e, e + c + yi = xi + 1000000000 := ⟨xi + 1000000000 - c - yi, by omega⟩
              have hngI : (xi : Int) - (c : Int) - (yi : Int) < 0 := by omega
              have ee : (xi : Int) - (c : Int) - (yi : Int) + 1000000000 = (e : Int) := by omega
              have hnx := hs.step (d := e) (c' := 1) (by simp only [BB]; omega) (by decide) (by rw [gx, gy]; simp only [BB]; omega)
              ((try simp only [go_sem, hlI, hbI, hel, hel2, hngI, ee]); (try simp (disch := omega) only [wrap_i64, wrap_u64, wrap_u32, elemD_lt, hlI, hbI, hel, hel2, hngI, ee]); (try simp only [go_sem, hlI, hbI, hel, hel2, hngI, ee]); (try simp (disch := omega) only [wrap_i64, wrap_u64, wrap_u32, elemD_lt, hlI, hbI, hel, hel2, hngI, ee]); (try simp only [go_sem, hlI, hbI, hel, hel2, hngI, ee]))
              refine opA_app_nil (Nat.le_refl _) (sz := 1) (bytes := 4) (by simp only [go_sem, AppTy] <;> decide) limb_len [e] (by simp only [go_sem] <;> rfl) (by simp only [go_sem] <;> rfl) rfl (by simp) (by simp) (by simp only [go_sem]) (by decide) ?_
              ((try simp only [go_sem]); (try simp (disch := omega) only [wrap_i64, wrap_u64, wrap_u32, elemD_lt]); (try simp only [go_sem]); (try simp (disch := omega) only [wrap_i64, wrap_u64, wrap_u32, elemD_lt]); (try simp only [go_sem]))
              refine ⟨(([] : List Nat) ++ [e], 1), ⟨by simp only [List.length_append, List.length_cons, List.length_nil] at *; omega, by simpa using hnx⟩, (by show x.length - (([] : List Nat) ++ [e]).length < x.length - ([] : List Nat).length; simp only [List.length_append, List.length_cons, List.length_nil] at *; omega), ?_⟩
              refine gstep_list rfl ?_ ?_ rfl ?_ <;> ((try simp only [go_sem, cellsL_refs, List.length_append, List.length_cons, List.length_nil]); (try simp (disch := omega) only [wrap_i64, wrap_u64, wrap_u32, elemD_lt, cellsL_refs, List.length_append, List.length_cons, List.length_nil]); (try simp only [go_sem, cellsL_refs, List.length_append, List.length_cons, List.length_nil]); (try simp (disch := omega) only [wrap_i64, wrap_u64, wrap_u32, elemD_lt, cellsL_refs, List.length_append, List.length_cons, List.length_nil]); (try simp only [go_sem, cellsL_refs, List.length_append, List.length_cons, List.length_nil])) <;> simp
            · obtain ⟨e, he⟩ : ∃ e, e + c + yi = xi := ⟨xi - c - yi, by omega⟩
              have hngI : ¬ (e : Int) < 0 := by omega
              have ee : (xi : Int) - (c : Int) - (yi : Int) = (e : Int) := by omega
              have hnx := hs.step (d := e) (c' := 0) (by simp only [BB]; omega) (by decide) (by rw [gx, gy]; simp only [BB]; omega)
              ((try simp only [go_sem, hlI, hbI, hel, hel2, hngI, ee]); (try simp (disch := omega) only [wrap_i64, wrap_u64, wrap_u32, elemD_lt, hlI, hbI, hel, hel2, hngI, ee]); (try simp only [go_sem, hlI, hbI, hel, hel2, hngI, ee]); (try simp (disch := omega) only [wrap_i64, wrap_u64, wrap_u32, elemD_lt, hlI, hbI, hel, hel2, hngI, ee]); (try simp only [go_sem, hlI, hbI, hel, hel2, hngI, ee]))
              refine opA_app_nil (Nat.le_refl _) (sz := 1) (bytes := 4) (by simp only [go_sem, AppTy] <;> decide) limb_len [e] (by simp only [go_sem] <;> rfl) (by simp only [go_sem] <;> rfl) rfl (by simp) (by simp) (by simp only [go_sem]) (by decide) ?_
              ((try simp only [go_sem]); (try simp (disch := omega) only [wrap_i64, wrap_u64, wrap_u32, elemD_lt]); (try simp only [go_sem]); (try simp (disch := omega) only [wrap_i64, wrap_u64, wrap_u32, elemD_lt]); (try simp only [go_sem]))
              refine ⟨(([] : List Nat) ++ [e], 0), ⟨by simp only [List.length_append, List.length_cons, List.length_nil] at *; omega, by simpa using hnx⟩, (by show x.length - (([] : List Nat) ++ [e]).length < x.length - ([] : List Nat).length; simp only [List.length_append, List.length_cons, List.length_nil] at *; omega), ?_⟩
              refine gstep_list rfl ?_ ?_ rfl ?_ <;> ((try simp only [go_sem, cellsL_refs, List.length_append, List.length_cons, List.length_nil]); (try simp (disch := omega) only [wrap_i64, wrap_u64, wrap_u32, elemD_lt, cellsL_refs, List.length_append, List.length_cons, List.length_nil]); (try simp only [go_sem, cellsL_refs, List.length_append, List.length_cons, List.length_nil]); (try simp (disch := omega) only [wrap_i64, wrap_u64, wrap_u32, elemD_lt, cellsL_refs, List.length_append, List.length_cons, List.length_nil]); (try simp only [go_sem, cellsL_refs, List.length_append, List.length_cons, List.length_nil])) <;> simp
          · have hbI : ¬ (0 : Int) < (y.length : Int) := by omega
            have gy : y.getD (0) 0 = 0 := by simp [show y.length ≤ 0 by omega]
            by_cases hng : xi < c + 0
            · obtain ⟨e, he⟩ : ∃ e, e + c + 0 = xi + 1000000000 := ⟨xi + 1000000000 - c - 0, by omega⟩
              have hngI : (xi : Int) - (c : Int) < 0 := by omega
              have ee : (xi : Int) - (c : Int) + 1000000000 = (e : Int) := by omega
              have hnx := hs.step (d := e) (c' := 1) (by simp only [BB]; omega) (by decide) (by rw [gx, gy]; simp only [BB]; omega)
              ((try simp only [go_sem, hlI, hbI, hel, hngI, ee]); (try simp (disch := omega) only [wrap_i64, wrap_u64, wrap_u32, elemD_lt, hlI, hbI, hel, hngI, ee]); (try simp only [go_sem, hlI, hbI, hel, hngI, ee]); (try simp (disch := omega) only [wrap_i64, wrap_u64, wrap_u32, elemD_lt, hlI, hbI, hel, hngI, ee]); (try simp only [go_sem, hlI, hbI, hel, hngI, ee]))
              refine opA_app_nil (Nat.le_refl _) (sz := 1) (bytes := 4) (by simp only [go_sem, AppTy] <;> decide) limb_len [e] (by simp only [go_sem] <;> rfl) (by simp only [go_sem] <;> rfl) rfl (by simp) (by simp) (by simp only [go_sem]) (by decide) ?_
              ((try simp only [go_sem]); (try simp (disch := omega) only [wrap_i64, wrap_u64, wrap_u32, elemD_lt]); (try simp only [go_sem]); (try simp (disch := omega) only [wrap_i64, wrap_u64, wrap_u32, elemD_lt]); (try simp only [go_sem]))
              refine ⟨(([] : List Nat) ++ [e], 1), ⟨by simp only [List.length_append, List.length_cons, List.length_nil] at *; omega, by simpa using hnx⟩, (by show x.length - (([] : List Nat) ++ [e]).length < x.length - ([] : List Nat).length; simp only [List.length_append, List.length_cons, List.length_nil] at *; omega), ?_⟩
              refine gstep_list rfl ?_ ?_ rfl ?_ <;> ((try simp only [go_sem, cellsL_refs, List.length_append, List.length_cons, List.length_nil]); (try simp (disch := omega) only [wrap_i64, wrap_u64, wrap_u32, elemD_lt, cellsL_refs, List.length_append, List.length_cons, List.length_nil]); (try simp only [go_sem, cellsL_refs, List.length_append, List.length_cons, List.length_nil]); (try simp (disch := omega) only [wrap_i64, wrap_u64, wrap_u32, elemD_lt, cellsL_refs, List.length_append, List.length_cons, List.length_nil]); (try simp only [go_sem, cellsL_refs, List.length_append, List.length_cons, List.length_nil])) <;> simp
            · obtain ⟨e, he⟩ : ∃ e, e + c + 0 = xi := ⟨xi - c - 0, by omega⟩
              have hngI : ¬ (e : Int) < 0 := by omega
              have ee : (xi : Int) - (c : Int) = (e : Int) := by omega
              have hnx := hs.step (d := e) (c' := 0) (by simp only [BB]; omega) (by decide) (by rw [gx, gy]; simp only [BB]; omega)
              ((try simp only [go_sem, hlI, hbI, hel, hngI, ee]); (try simp (disch := omega) only [wrap_i64, wrap_u64, wrap_u32, elemD_lt, hlI, hbI, hel, hngI, ee]); (try simp only [go_sem, hlI, hbI, hel, hngI, ee]); (try simp (disch := omega) only [wrap_i64, wrap_u64, wrap_u32, elemD_lt, hlI, hbI, hel, hngI, ee]); (try simp only [go_sem, hlI, hbI, hel, hngI, ee]))
              refine opA_app_nil (Nat.le_refl _) (sz := 1) (bytes := 4) (by simp only [go_sem, AppTy] <;> decide) limb_len [e] (by simp only [go_sem] <;> rfl) (by simp only [go_sem] <;> rfl) rfl (by simp) (by simp) (by simp only [go_sem]) (by decide) ?_
              ((try simp only [go_sem]); (try simp (disch := omega) only [wrap_i64, wrap_u64, wrap_u32, elemD_lt]); (try simp only [go_sem]); (try simp (disch := omega) only [wrap_i64, wrap_u64, wrap_u32, elemD_lt]); (try simp only [go_sem]))
              refine ⟨(([] : List Nat) ++ [e], 0), ⟨by simp only [List.length_append, List.length_cons, List.length_nil] at *; omega, by simpa using hnx⟩, (by show x.length - (([] : List Nat) ++ [e]).length < x.length - ([] : List Nat).length; simp only [List.length_append, List.length_cons, List.length_nil] at *; omega), ?_⟩
              refine gstep_list rfl ?_ ?_ rfl ?_ <;> ((try simp only [go_sem, cellsL_refs, List.length_append, List.length_cons, List.length_nil]); (try simp (disch := omega) only [wrap_i64, wrap_u64, wrap_u32, elemD_lt, cellsL_refs, List.length_append, List.length_cons, List.length_nil]); (try simp only [go_sem, cellsL_refs, List.length_append, List.length_cons, List.length_nil]); (try simp (disch := omega) only [wrap_i64, wrap_u64, wrap_u32, elemD_lt, cellsL_refs, List.length_append, List.length_cons, List.length_nil]); (try simp only [go_sem, cellsL_refs, List.length_append, List.length_cons, List.length_nil])) <;> simp
        · have hlI : ¬ (0 : Int) < (x.length : Int) := by omega
          exfalso
          have : x = [] := List.length_eq_zero_iff.1 (by omega)
          subst this
          simp [val] at hlt
      | cons d0 l =>
        simp only [List.length_cons] at *
        have htn : ((l.length : Int) + 1).toNat = l.length + 1 := by omega
        by_cases hl0 : l.length + 1 < x.length
        · have hlI : (l.length : Int) + 1 < (x.length : Int) := by omega
          have hxi := hx _ (List.getElem_mem hl0)
          have hel : elemD limb x (l.length + 1) = limb x[l.length + 1] := elemD_lt hl0
          have gx : x.getD (l.length + 1) 0 = x[l.length + 1] := by simp [hl0]
          simp only [BB] at hxi
          generalize x[l.length + 1] = xi at *
          by_cases hb : l.length + 1 < y.length
          · have hbI : (l.length : Int) + 1 < (y.length : Int) := by omega
            have hyi := hy _ (List.getElem_mem hb)
            have hel2 : elemD limb y (l.length + 1) = limb y[l.length + 1] := elemD_lt hb
            have gy : y.getD (l.length + 1) 0 = y[l.length + 1] := by simp [hb]
            simp only [BB] at hyi
            generalize y[l.length + 1] = yi at *
            by_cases hng : xi < c + yi
            · obtain ⟨e, he⟩ : ∃ e, e + c + yi = xi + 1000000000 := ⟨xi + 1000000000 - c - yi, by omega⟩
              have hngI : (xi : Int) - (c : Int) - (yi : Int) < 0 := by omega
              have ee : (xi : Int) - (c : Int) - (yi : Int) + 1000000000 = (e : Int) := by omega
              have hnx := hs.step (d := e) (c' := 1) (by simp only [BB]; omega) (by decide) (by rw [gx, gy]; simp only [BB]; omega)
              ((try simp only [go_sem, hlI, hbI, hel, hel2, htn, hngI, ee]); (try simp (disch := omega) only [wrap_i64, wrap_u64, wrap_u32, elemD_lt, hlI, hbI, hel, hel2, htn, hngI, ee]); (try simp only [go_sem, hlI, hbI, hel, hel2, htn, hngI, ee]); (try simp (disch := omega) only [wrap_i64, wrap_u64, wrap_u32, elemD_lt, hlI, hbI, hel, hel2, htn, hngI, ee]); (try simp only [go_sem, hlI, hbI, hel, hel2, htn, hngI, ee]))
              refine ⟨by omega, by omega, ?_⟩
              refine opA_app_vec (Nat.le_refl _) (sz := 1) (bytes := 4) (by simp only [go_sem, AppTy] <;> decide) limb_len (d0 :: l) [e] (by simp only [go_sem] <;> rfl) rfl (by simp only [go_sem]) (by simp only [go_sem] <;> rfl) rfl (by simp only [List.length_cons] at *; simp; omega) (by decide) ?_
              ((try simp only [go_sem]); (try simp (disch := omega) only [wrap_i64, wrap_u64, wrap_u32, elemD_lt]); (try simp only [go_sem]); (try simp (disch := omega) only [wrap_i64, wrap_u64, wrap_u32, elemD_lt]); (try simp only [go_sem]))
              refine ⟨((d0 :: l) ++ [e], 1), ⟨by simp only [List.length_append, List.length_cons, List.length_nil] at *; omega, by simpa using hnx⟩, (by show x.length - ((d0 :: l) ++ [e]).length < x.length - (d0 :: l).length; simp only [List.length_append, List.length_cons, List.length_nil] at *; omega), ?_⟩
              refine gstep_list rfl ?_ ?_ rfl ?_ <;> ((try simp only [go_sem, cellsL_refs, List.length_append, List.length_cons, List.length_nil]); (try simp (disch := omega) only [wrap_i64, wrap_u64, wrap_u32, elemD_lt, cellsL_refs, List.length_append, List.length_cons, List.length_nil]); (try simp only [go_sem, cellsL_refs, List.length_append, List.length_cons, List.length_nil]); (try simp (disch := omega) only [wrap_i64, wrap_u64, wrap_u32, elemD_lt, cellsL_refs, List.length_append, List.length_cons, List.length_nil]); (try simp only [go_sem, cellsL_refs, List.length_append, List.length_cons, List.length_nil])) <;> simp
            · obtain ⟨e, he⟩ : ∃ e, e + c + yi = xi := ⟨xi - c - yi, by omega⟩
              have hngI : ¬ (e : Int) < 0 := by omega
              have ee : (xi : Int) - (c : Int) - (yi : Int) = (e : Int) := by omega
              have hnx := hs.step (d := e) (c' := 0) (by simp only [BB]; omega) (by decide) (by rw [gx, gy]; simp only [BB]; omega)
              ((try simp only [go_sem, hlI, hbI, hel, hel2, htn, hngI, ee]); (try simp (disch := omega) only [wrap_i64, wrap_u64, wrap_u32, elemD_lt, hlI, hbI, hel, hel2, htn, hngI, ee]); (try simp only [go_sem, hlI, hbI, hel, hel2, htn, hngI, ee]); (try simp (disch := omega) only [wrap_i64, wrap_u64, wrap_u32, elemD_lt, hlI, hbI, hel, hel2, htn, hngI, ee]); (try simp only [go_sem, hlI, hbI, hel, hel2, htn, hngI, ee]))
              refine ⟨by omega, by omega, ?_⟩
              refine opA_app_vec (Nat.le_refl _) (sz := 1) (bytes := 4) (by simp only [go_sem, AppTy] <;> decide) limb_len (d0 :: l) [e] (by simp only [go_sem] <;> rfl) rfl (by simp only [go_sem]) (by simp only [go_sem] <;> rfl) rfl (by simp only [List.length_cons] at *; simp; omega) (by decide) ?_
              ((try simp only [go_sem]); (try simp (disch := omega) only [wrap_i64, wrap_u64, wrap_u32, elemD_lt]); (try simp only [go_sem]); (try simp (disch := omega) only [wrap_i64, wrap_u64, wrap_u32, elemD_lt]); (try simp only [go_sem]))
              refine ⟨((d0 :: l) ++ [e], 0), ⟨by simp only [List.length_append, List.length_cons, List.length_nil] at *; omega, by simpa using hnx⟩, (by show x.length - ((d0 :: l) ++ [e]).length < x.length - (d0 :: l).length; simp only [List.length_append, List.length_cons, List.length_nil] at *; omega), ?_⟩
              refine gstep_list rfl ?_ ?_ rfl ?_ <;> ((try simp only [go_sem, cellsL_refs, List.length_append, List.length_cons, List.length_nil]); (try simp (disch := omega) only [wrap_i64, wrap_u64, wrap_u32, elemD_lt, cellsL_refs, List.length_append, List.length_cons, List.length_nil]); (try simp only [go_sem, cellsL_refs, List.length_append, List.length_cons, List.length_nil]); (try simp (disch := omega) only [wrap_i64, wrap_u64, wrap_u32, elemD_lt, cellsL_refs, List.length_append, List.length_cons, List.length_nil]); (try simp only [go_sem, cellsL_refs, List.length_append, List.length_cons, List.length_nil])) <;> simp
          · have hbI : ¬ (l.length : Int) + 1 < (y.length : Int) := by omega
            have gy : y.getD (l.length + 1) 0 = 0 := by simp [show y.length ≤ l.length + 1 by omega]
            by_cases hng : xi < c + 0
            · obtain ⟨e, he⟩ : ∃ e, e + c + 0 = xi + 1000000000 := ⟨xi + 1000000000 - c - 0, by omega⟩
              have hngI : (xi : Int) - (c : Int) < 0 := by omega
              have ee : (xi : Int) - (c : Int) + 1000000000 = (e : Int) := by omega
              have hnx := hs.step (d := e) (c' := 1) (by simp only [BB]; omega) (by decide) (by rw [gx, gy]; simp only [BB]; omega)
              ((try simp only [go_sem, hlI, hbI, hel, htn, hngI, ee]); (try simp (disch := omega) only [wrap_i64, wrap_u64, wrap_u32, elemD_lt, hlI, hbI, hel, htn, hngI, ee]); (try simp only [go_sem, hlI, hbI, hel, htn, hngI, ee]); (try simp (disch := omega) only [wrap_i64, wrap_u64, wrap_u32, elemD_lt, hlI, hbI, hel, htn, hngI, ee]); (try simp only [go_sem, hlI, hbI, hel, htn, hngI, ee]))
              refine ⟨by omega, ?_⟩
              refine opA_app_vec (Nat.le_refl _) (sz := 1) (bytes := 4) (by simp only [go_sem, AppTy] <;> decide) limb_len (d0 :: l) [e] (by simp only [go_sem] <;> rfl) rfl (by simp only [go_sem]) (by simp only [go_sem] <;> rfl) rfl (by simp only [List.length_cons] at *; simp; omega) (by decide) ?_
              ((try simp only [go_sem]); (try simp (disch := omega) only [wrap_i64, wrap_u64, wrap_u32, elemD_lt]); (try simp only [go_sem]); (try simp (disch := omega) only [wrap_i64, wrap_u64, wrap_u32, elemD_lt]); (try simp only [go_sem]))
              refine ⟨((d0 :: l) ++ [e], 1), ⟨by simp only [List.length_append, List.length_cons, List.length_nil] at *; omega, by simpa using hnx⟩, (by show x.length - ((d0 :: l) ++ [e]).length < x.length - (d0 :: l).length; simp only [List.length_append, List.length_cons, List.length_nil] at *; omega), ?_⟩
              refine gstep_list rfl ?_ ?_ rfl ?_ <;> ((try simp only [go_sem, cellsL_refs, List.length_append, List.length_cons, List.length_nil]); (try simp (disch := omega) only [wrap_i64, wrap_u64, wrap_u32, elemD_lt, cellsL_refs, List.length_append, List.length_cons, List.length_nil]); (try simp only [go_sem, cellsL_refs, List.length_append, List.length_cons, List.length_nil]); (try simp (disch := omega) only [wrap_i64, wrap_u64, wrap_u32, elemD_lt, cellsL_refs, List.length_append, List.length_cons, List.length_nil]); (try simp only [go_sem, cellsL_refs, List.length_append, List.length_cons, List.length_nil])) <;> simp
            · obtain ⟨e, he⟩ : ∃ e, e + c + 0 = xi := ⟨xi - c - 0, by omega⟩
              have hngI : ¬ (e : Int) < 0 := by omega
              have ee : (xi : Int) - (c : Int) = (e : Int) := by omega
              have hnx := hs.step (d := e) (c' := 0) (by simp only [BB]; omega) (by decide) (by rw [gx, gy]; simp only [BB]; omega)
              ((try simp only [go_sem, hlI, hbI, hel, htn, hngI, ee]); (try simp (disch := omega) only [wrap_i64, wrap_u64, wrap_u32, elemD_lt, hlI, hbI, hel, htn, hngI, ee]); (try simp only [go_sem, hlI, hbI, hel, htn, hngI, ee]); (try simp (disch := omega) only [wrap_i64, wrap_u64, wrap_u32, elemD_lt, hlI, hbI, hel, htn, hngI, ee]); (try simp only [go_sem, hlI, hbI, hel, htn, hngI, ee]))
              refine ⟨by omega, ?_⟩
              refine opA_app_vec (Nat.le_refl _) (sz := 1) (bytes := 4) (by simp only [go_sem, AppTy] <;> decide) limb_len (d0 :: l) [e] (by simp only [go_sem] <;> rfl) rfl (by simp only [go_sem]) (by simp only [go_sem] <;> rfl) rfl (by simp only [List.length_cons] at *; simp; omega) (by decide) ?_
              ((try simp only [go_sem]); (try simp (disch := omega) only [wrap_i64, wrap_u64, wrap_u32, elemD_lt]); (try simp only [go_sem]); (try simp (disch := omega) only [wrap_i64, wrap_u64, wrap_u32, elemD_lt]); (try simp only [go_sem]))
              refine ⟨((d0 :: l) ++ [e], 0), ⟨by simp only [List.length_append, List.length_cons, List.length_nil] at *; omega, by simpa using hnx⟩, (by show x.length - ((d0 :: l) ++ [e]).length < x.length - (d0 :: l).length; simp only [List.length_append, List.length_cons, List.length_nil] at *; omega), ?_⟩
              refine gstep_list rfl ?_ ?_ rfl ?_ <;> ((try simp only [go_sem, cellsL_refs, List.length_append, List.length_cons, List.length_nil]); (try simp (disch := omega) only [wrap_i64, wrap_u64, wrap_u32, elemD_lt, cellsL_refs, List.length_append, List.length_cons, List.length_nil]); (try simp only [go_sem, cellsL_refs, List.length_append, List.length_cons, List.length_nil]); (try simp (disch := omega) only [wrap_i64, wrap_u64, wrap_u32, elemD_lt, cellsL_refs, List.length_append, List.length_cons, List.length_nil]); (try simp only [go_sem, cellsL_refs, List.length_append, List.length_cons, List.length_nil])) <;> simp
        · have hlI : ¬ (l.length : Int) + 1 < (x.length : Int) := by omega
          have hle : l.length + 1 = x.length := by omega
          rw [hle] at hs
          have hdn := hs.done hyx hlt
          ((try simp only [go_sem, hlI]); (try simp (disch := omega) only [wrap_i64, wrap_u64, wrap_u32, elemD_lt, hlI]); (try simp only [go_sem, hlI]); (try simp (disch := omega) only [wrap_i64, wrap_u64, wrap_u32, elemD_lt, hlI]); (try simp only [go_sem, hlI]))
          refine call_frz 51 1 (l.length + 1) rfl (r_trim (d0 :: l) (by simp only [List.length_cons] at *; omega)) (by simp only [go_sem] <;> rfl) (by rw [show l.length + 1 = (d0 :: l).length from rfl]; exact treeOf_L limb_len) ?_ ?_
          · simp only [go_sem] <;> rfl
          · simp only [go_sem]
            rw [hdn]; exact fz_eL
end Go.Proofs.YtgnfgaioeldagaaGreat
