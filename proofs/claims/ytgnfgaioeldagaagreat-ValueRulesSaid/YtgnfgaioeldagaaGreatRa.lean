/- At every input the call answers true and leaves its arguments as they were; no conditions. -/
import Derived.Test.YtgnfgaioeldagaaGreatNb
set_option linter.unusedSimpArgs false
set_option linter.unusedVariables false
namespace Go.Proofs.YtgnfgaioeldagaaGreat
open Go Go.Abs
set_option maxHeartbeats 1000000

set_option maxRecDepth 100000 in
theorem r_IsNat (xs : List Nat) (hl : xs.length < 30000000000000) : PCall Tryz.prog 118 [tN xs] (tB (decide (IsN xs))) := by
  refine pcall_of_wpA mixed Tryz.call118 Tryz.func118 rfl Tryz.ntmps118 Tryz.results118 (by simp) (by decide) ?_
  simp only [go_sem]
  refine loop_inv (fun i : Nat => stL 27 [(0, aN xs), (3, litI .i64 i)] []) (fun i => i ≤ xs.length ∧ ∀ j (h : j < xs.length), j < i → xs[j] < 1000000000) (fun i => xs.length - i) 0 ?_ ⟨Nat.zero_le _, fun j h hj => absurd hj (Nat.not_lt_zero _)⟩ ?_
  · refine gstep_list rfl ?_ ?_ rfl rfl <;> simp only [go_sem] <;> simp
  · rintro i ⟨hi, hpre⟩
    simp only [go_sem]
    refine CondR_if (fun hlt => ?_) (fun hge => ?_)
    · have hlt' : i < xs.length := by omega
      simp only [go_sem, elemD_lt hlt', hlt]
      refine ⟨by omega, CondR_if (fun h => ?_) (fun h => ?_)⟩
      · simp only [go_sem]
        symm
        simp only [decide_eq_false_iff_not]
        intro hc
        have := hc.1 xs[i] (List.getElem_mem _)
        simp only [BB] at this; omega
      · simp only [go_sem]
        refine ⟨i + 1, ⟨hlt', fun j hj hji => ?_⟩, (by show xs.length - (i + 1) < xs.length - i; omega), ?_⟩
        · by_cases e : j = i
          · subst e; omega
          · exact hpre j hj (by omega)
        · refine gstep_list rfl ?_ ?_ rfl rfl <;> simp only [go_sem, wrap_i64 (n := (i : Int) + 1) (by omega) (by omega)] <;> simp
    · have hge' : i = xs.length := by omega
      subst hge'
      have hall : ∀ x ∈ xs, x < BB := fun x hx => by
        obtain ⟨j, hj, rfl⟩ := List.mem_iff_getElem.1 hx
        exact hpre j hj hj
      simp only [go_sem]
      cases hx : xs with
      | nil =>
        simp only [go_sem]
        rfl
      | cons x l =>
        rw [hx] at hl hall
        simp only [List.length_cons] at hl
        have hne : ¬ ((l.length : Int) + 1 = 0) := by omega
        have hlen : l.length < (x :: l).length := by simp
        ((try simp only [go_sem, hne, show (l.length : Int) + 1 - 1 = (l.length : Int) by omega]); (try simp (disch := omega) only [wrap_i64, wrap_u64, wrap_u32, elemD_lt, hne, show (l.length : Int) + 1 - 1 = (l.length : Int) by omega]); (try simp only [go_sem, hne, show (l.length : Int) + 1 - 1 = (l.length : Int) by omega]); (try simp (disch := omega) only [wrap_i64, wrap_u64, wrap_u32, elemD_lt, hne, show (l.length : Int) + 1 - 1 = (l.length : Int) by omega]); (try simp only [go_sem, hne, show (l.length : Int) + 1 - 1 = (l.length : Int) by omega]))
        have e : (x :: l).getLast? = some ((x :: l)[l.length]) := by simp [List.getLast?_eq_getElem?]
        have hiff : IsN (x :: l) ↔ (x :: l)[l.length] ≠ 0 := by
          unfold IsN; rw [e]; simp only [ne_eq, Option.some.injEq]
          exact ⟨fun h => h.2, fun h => ⟨hall, h⟩⟩
        refine ⟨by omega, ?_⟩
        rw [decide_eq_decide, hiff]
        omega

set_option maxRecDepth 100000 in
theorem r_nat (xs : List Nat) (hl : xs.length < 30000000000000) : PCall Tryz.prog 104 [tN xs] (tN (held xs)) := by
  refine pcall_of_wpA mixed Tryz.call104 Tryz.func104 rfl Tryz.ntmps104 Tryz.results104 (by simp) (by decide) ?_
  simp only [go_sem]
  refine call_pure (r_IsNat xs hl) rfl ?_
  by_cases h : IsN xs
  · simp only [go_sem, h, held]
    exact fz_eL
  · simp only [go_sem, h, held]
    exact fz_nil

set_option maxRecDepth 100000 in
theorem r_trim (xs : List Nat) (hl : xs.length < 30000000000000) : PCall Tryz.prog 105 [tN xs] (tN (trimZ xs)) := by
  refine pcall_of_wpA mixed Tryz.call105 Tryz.func105 rfl Tryz.ntmps105 Tryz.results105 (by simp) (by decide) ?_
  simp only [go_sem]
  refine loop_inv (fun k : Nat => stL 21 [(0, aN xs), (3, litI .i64 k)] []) (fun k => k ≤ xs.length ∧ trimZ (xs.take k) = trimZ xs) (fun k => k) xs.length ?_ ⟨Nat.le_refl _, by rw [List.take_length]⟩ ?_
  · refine gstep_list rfl ?_ ?_ rfl rfl <;> simp only [go_sem] <;> simp
  · rintro k ⟨hi, hpre⟩
    rcases Nat.eq_zero_or_pos k with rfl | hk
    · simp only [go_sem]
      rw [← hpre]; refine ⟨by omega, fz_eL⟩
    · obtain ⟨i, rfl⟩ : ∃ i, k = i + 1 := ⟨k - 1, by omega⟩
      have hi' : i < xs.length := by omega
      have hpos : (0 : Int) < ((i + 1 : Nat) : Int) := by omega
      have hpos2 : (0 : Int) < (i : Int) + 1 := by omega
      have e : ((i + 1 : Nat) : Int) - 1 = i := by omega
      have e2 : (i : Int) + 1 - 1 = i := by omega
      rw [take_snoc hi'] at hpre
      ((try simp only [go_sem, hpos, hpos2, e, e2]); (try simp (disch := omega) only [wrap_i64, wrap_u64, wrap_u32, elemD_lt, hpos, hpos2, e, e2]); (try simp only [go_sem, hpos, hpos2, e, e2]); (try simp (disch := omega) only [wrap_i64, wrap_u64, wrap_u32, elemD_lt, hpos, hpos2, e, e2]); (try simp only [go_sem, hpos, hpos2, e, e2]))
      refine ⟨by omega, CondR_if (fun h => ?_) (fun h => ?_)⟩
      · have hx : xs[i] = 0 := by omega
        rw [hx, trimZ_snoc] at hpre
        ((try simp only [go_sem, hpos, hpos2, e, e2]); (try simp (disch := omega) only [wrap_i64, wrap_u64, wrap_u32, elemD_lt, hpos, hpos2, e, e2]); (try simp only [go_sem, hpos, hpos2, e, e2]); (try simp (disch := omega) only [wrap_i64, wrap_u64, wrap_u32, elemD_lt, hpos, hpos2, e, e2]); (try simp only [go_sem, hpos, hpos2, e, e2]))
        refine ⟨i, ⟨by omega, hpre⟩, Nat.lt_succ_self i, ?_⟩
        refine gstep_list rfl ?_ ?_ rfl ?_ <;> simp only [go_sem] <;> simp
      · have hx : xs[i] ≠ 0 := by omega
        rw [trimZ_last (by rw [List.getLast?_concat]; simp [hx]), ← take_snoc hi'] at hpre
        ((try simp only [go_sem, hpos2, show (0 : Int) ≤ (i : Int) + 1 by omega, show ((i : Int) + 1).toNat = i + 1 by omega]); (try simp (disch := omega) only [wrap_i64, wrap_u64, wrap_u32, elemD_lt, hpos2, show (0 : Int) ≤ (i : Int) + 1 by omega, show ((i : Int) + 1).toNat = i + 1 by omega]); (try simp only [go_sem, hpos2, show (0 : Int) ≤ (i : Int) + 1 by omega, show ((i : Int) + 1).toNat = i + 1 by omega]); (try simp (disch := omega) only [wrap_i64, wrap_u64, wrap_u32, elemD_lt, hpos2, show (0 : Int) ≤ (i : Int) + 1 by omega, show ((i : Int) + 1).toNat = i + 1 by omega]); (try simp only [go_sem, hpos2, show (0 : Int) ≤ (i : Int) + 1 by omega, show ((i : Int) + 1).toNat = i + 1 by omega]))
        rw [← hpre]
        exact ⟨by first | exact hi | exact ⟨Nat.zero_le _, hi⟩, fz_eL⟩

set_option maxRecDepth 100000 in
theorem r_NatOf (n : Nat) (hn : n < 18446744073709551616) : PCall Tryz.prog 76 [tI .u64 n] (tN (dig n)) := by
  refine pcall_of_wpA mixed Tryz.call76 Tryz.func76 rfl Tryz.ntmps76 Tryz.results76 (by simp) (by decide) ?_
  simp only [go_sem]
  have hd3 : (dig n).length ≤ 3 := dig_length_le (by simp only [BB]; omega)
  refine loop_inv (fun p : Nat × List Nat => match p.2 with
      | [] => stL 15 [(0, litI .u64 p.1), (3, .one (.t (.seq (some true) [])))] []
      | _ :: _ => stL 15 [(0, litI .u64 p.1), (3, .one (.vec 11 1 0 p.2.length))] [(11, cN p.2)]) (fun p => p.1 ≤ n ∧ p.2 ++ dig p.1 = dig n) (fun p => p.1) (n, []) ?_ ⟨Nat.le_refl _, rfl⟩ ?_
  · refine gstep_list rfl ?_ ?_ rfl rfl <;> simp only [go_sem] <;> simp
  · rintro ⟨m, l⟩ ⟨hm, hinv⟩
    simp only at hm hinv
    have hlen : l.length ≤ 3 := by have := congrArg List.length hinv; simp at this; omega
    by_cases h0 : m = 0
    · subst h0
      rw [dig_zero, List.append_nil] at hinv
      rw [← hinv]
      cases l with
      | nil => simp only [go_sem]; exact fz_nil
      | cons x t => simp only [go_sem]; exact fz_vecA limb_len (by simp only [go_sem]) rfl
    · have hpos : (0 : Int) < (m : Int) := by omega
      have hw : m / 1000000000 ≤ m := Nat.div_le_self _ _
      have hmod : m % 1000000000 < 1000000000 := Nat.mod_lt _ (by decide)
      cases l with
      | nil =>
        ((try simp only [go_sem, hpos, tmodB, tdivB]); (try simp (disch := omega) only [wrap_i64, wrap_u64, wrap_u32, elemD_lt, hpos, tmodB, tdivB]); (try simp only [go_sem, hpos, tmodB, tdivB]); (try simp (disch := omega) only [wrap_i64, wrap_u64, wrap_u32, elemD_lt, hpos, tmodB, tdivB]); (try simp only [go_sem, hpos, tmodB, tdivB]))
        refine opA_app_nil (Nat.le_refl _) (sz := 1) (bytes := 4) (by simp only [go_sem, AppTy] <;> decide) limb_len [m % 1000000000] (by simp only [go_sem] <;> rfl) (by simp only [go_sem] <;> rfl) rfl (by simp) (by simp) (by simp only [go_sem]) (by decide) ?_
        ((try simp only [go_sem, tdivB]); (try simp (disch := omega) only [wrap_i64, wrap_u64, wrap_u32, elemD_lt, tdivB]); (try simp only [go_sem, tdivB]); (try simp (disch := omega) only [wrap_i64, wrap_u64, wrap_u32, elemD_lt, tdivB]); (try simp only [go_sem, tdivB]))
        refine ⟨(m / 1000000000, [m % 1000000000]), ⟨by omega, ?_⟩, by show m / 1000000000 < m; omega, ?_⟩
        · rw [← hinv]; simp only [List.nil_append]; rw [dig_pos h0]; rfl
        · refine gstep_list rfl ?_ ?_ rfl ?_ <;> simp only [go_sem, cellsL_refs] <;> simp
      | cons x t =>
        ((try simp only [go_sem, hpos, tmodB, tdivB]); (try simp (disch := omega) only [wrap_i64, wrap_u64, wrap_u32, elemD_lt, hpos, tmodB, tdivB]); (try simp only [go_sem, hpos, tmodB, tdivB]); (try simp (disch := omega) only [wrap_i64, wrap_u64, wrap_u32, elemD_lt, hpos, tmodB, tdivB]); (try simp only [go_sem, hpos, tmodB, tdivB]))
        refine opA_app_vec (Nat.le_refl _) (sz := 1) (bytes := 4) (by simp only [go_sem, AppTy] <;> decide) limb_len (x :: t) [m % 1000000000] (by simp only [go_sem] <;> rfl) rfl (by simp only [go_sem]) (by simp only [go_sem] <;> rfl) rfl (by simp only [List.length_cons] at *; simp; omega) (by decide) ?_
        ((try simp only [go_sem, tdivB]); (try simp (disch := omega) only [wrap_i64, wrap_u64, wrap_u32, elemD_lt, tdivB]); (try simp only [go_sem, tdivB]); (try simp (disch := omega) only [wrap_i64, wrap_u64, wrap_u32, elemD_lt, tdivB]); (try simp only [go_sem, tdivB]))
        refine ⟨(m / 1000000000, x :: t ++ [m % 1000000000]), ⟨by omega, ?_⟩, by show m / 1000000000 < m; omega, ?_⟩
        · rw [← hinv, dig_pos h0]; simp
        · refine gstep_list rfl ?_ ?_ rfl ?_ <;> simp only [go_sem, cellsL_refs] <;> simp

set_option maxRecDepth 100000 in
theorem r_SameNat (x y : List Nat) (ha : x.length < 30000000000000) (hb : y.length < 30000000000000) : PCall Tryz.prog 70 [tN x, tN y] (tB (decide (x = y))) := by
  refine pcall_of_wpA mixed Tryz.call70 Tryz.func70 rfl Tryz.ntmps70 Tryz.results70 (by simp) (by decide) ?_
  simp only [go_sem]
  refine CondR_if (fun h => ?_) (fun h => ?_)
  · simp only [go_sem]
    symm
    simp only [decide_eq_false_iff_not]
    rintro rfl; simp at h
  · have hlen : x.length = y.length := by omega
    simp only [go_sem]
    refine loop_inv (fun i : Nat => stL 26 [(0, aN x), (1, aN y), (5, litI .i64 i)] []) (fun i => i ≤ x.length ∧ x.take i = y.take i) (fun i => x.length - i) 0 ?_ ⟨Nat.zero_le _, rfl⟩ ?_
    · refine gstep_list rfl ?_ ?_ rfl rfl <;> simp only [go_sem] <;> simp
    · rintro i ⟨hi, hpre⟩
      simp only [go_sem]
      refine CondR_if (fun hlt => ?_) (fun hge => ?_)
      · have hx : i < x.length := by omega
        have hy : i < y.length := by omega
        simp only [go_sem]
        refine regA_by 0 rfl ?_
        simp only [go_sem, elemD_lt hx, elemD_lt hy]
        refine ⟨⟨by omega, by omega⟩, ⟨by omega, by omega⟩, CondR_if (fun h => ?_) (fun h => ?_)⟩
        · simp only [go_sem]
          symm
          simp only [decide_eq_false_iff_not]
          rintro rfl; exact h rfl
        · simp only [go_sem]
          refine ⟨i + 1, ⟨hx, ?_⟩, (by show x.length - (i + 1) < x.length - i; omega), ?_⟩
          · rw [take_snoc hx, take_snoc hy, hpre, show x[i] = y[i] by omega]
          · refine gstep_list rfl ?_ ?_ rfl rfl <;> simp only [go_sem, wrap_i64 (n := (i : Int) + 1) (by omega) (by omega)] <;> simp
      · obtain rfl : i = x.length := by omega
        rw [List.take_length, hlen, List.take_length] at hpre
        simp only [go_sem]
        simp [hpre]

set_option maxRecDepth 100000 in
theorem r_CmpNat (a b : List Nat) (ha : a.length < 30000000000000) (hb : b.length < 30000000000000) : PCall Tryz.prog 69 [tN a, tN b] (tI .i64 (cmpI (vN a) (vN b))) := by
  refine pcall_of_wpA mixed Tryz.call69 Tryz.func69 rfl Tryz.ntmps69 Tryz.results69 (by simp) (by decide) ?_
  simp only [go_sem]
  refine call_pure (r_nat a ha) rfl ?_
  simp only [go_sem]
  refine call_pure (r_nat b hb) rfl ?_
  have ha1 := held_length a
  have hb1 := held_length b
  have hA := IsN_held a
  have hB := IsN_held b
  unfold vN
  generalize held a = x at *
  generalize held b = y at *
  simp only [go_sem]
  refine CondR_if (fun h => ?_) (fun h => ?_)
  · simp only [go_sem]
    refine CondR_if (fun h' => ?_) (fun h' => ?_)
    · have := val_lt_len hA hB (by omega)
      simp only [go_sem]
      unfold cmpI; rw [if_pos (by omega)]
    · have := val_lt_len hB hA (by omega)
      simp only [go_sem]
      unfold cmpI; rw [if_neg (by omega), if_pos (by omega)]
  · have hlen : x.length = y.length := by omega
    simp only [go_sem]
    refine loop_inv (fun k : Nat => stL 47 [(5, aN x), (6, aN y), (7, litI .i64 ((k : Int) - 1))] []) (fun k => k ≤ x.length ∧ x.drop k = y.drop k) (fun k => k) x.length ?_ ⟨Nat.le_refl _, by rw [List.drop_length, hlen, List.drop_length]⟩ ?_
    · refine gstep_list rfl ?_ ?_ rfl rfl <;> simp only [go_sem, wrap_i64 (n := (x.length : Int) - 1) (by omega) (by omega)] <;> simp
    · rintro k ⟨hk, hd⟩
      simp only [go_sem]
      refine CondR_if (fun hlt => ?_) (fun hge => ?_)
      · obtain ⟨i, rfl⟩ : ∃ i, k = i + 1 := ⟨k - 1, by omega⟩
        have hx : i < x.length := by omega
        have hy : i < y.length := by omega
        have e : ((i : Int) + 1 - 1) = i := by omega
        simp only [go_sem, e]
        refine regA_by 0 rfl ?_
        ((try simp only [go_sem, e]); (try simp (disch := omega) only [wrap_i64, wrap_u64, wrap_u32, elemD_lt, e]); (try simp only [go_sem, e]); (try simp (disch := omega) only [wrap_i64, wrap_u64, wrap_u32, elemD_lt, e]); (try simp only [go_sem, e]))
        refine ⟨by omega, by omega, CondR_if (fun h => ?_) (fun h => ?_)⟩
        · simp only [go_sem]
          have := val_lt_at hA.1 hx hy hd (by omega)
          unfold cmpI; rw [if_pos (by omega)]
        · simp only [go_sem]
          refine regA_by 0 rfl ?_
          ((try simp only [go_sem, e]); (try simp (disch := omega) only [wrap_i64, wrap_u64, wrap_u32, elemD_lt, e]); (try simp only [go_sem, e]); (try simp (disch := omega) only [wrap_i64, wrap_u64, wrap_u32, elemD_lt, e]); (try simp only [go_sem, e]))
          refine ⟨by omega, by omega, CondR_if (fun h' => ?_) (fun h' => ?_)⟩
          · simp only [go_sem]
            have := val_lt_at hB.1 hy hx hd.symm (by omega)
            unfold cmpI; rw [if_neg (by omega), if_pos (by omega)]
          · simp only [go_sem]
            refine ⟨i, ⟨by omega, ?_⟩, Nat.lt_succ_self i, ?_⟩
            · rw [List.drop_eq_getElem_cons hx, List.drop_eq_getElem_cons hy, hd, show x[i] = y[i] by omega]
            · refine gstep_list rfl ?_ ?_ rfl rfl <;> simp only [go_sem, e, wrap_i64 (n := (i : Int) - 1) (by omega) (by omega)] <;> simp
      · have hk0 : k = 0 := by omega
        subst hk0
        simp only [go_sem]
        have : x = y := by simpa using hd
        subst this
        unfold cmpI; rw [if_neg (by omega), if_neg (by omega)]
end Go.Proofs.YtgnfgaioeldagaaGreat
namespace Go.Proofs.YtgnfgaioeldagaaGreat
open Go Go.Abs
set_option maxHeartbeats 1000000

set_option maxRecDepth 100000 in
theorem r_shift (xs : List Nat) (low : Nat) (hl : xs.length < 10000000000000) : PCall Tryz.prog 106 [tN xs, tI .u32 low] (tN (trimZ (low :: xs))) := by
  refine pcall_of_wpA mixed Tryz.call106 Tryz.func106 rfl Tryz.ntmps106 Tryz.results106 (by simp) (by decide) ?_
  simp only [go_sem]
  refine opA_build 6 1 [.t (.lit (.int .u32 0))] (cs := cN [low]) rfl (Nat.le_refl _) (by simp only [go_sem] <;> decide) (by simp only [go_sem] <;> rfl) (by simp only [go_sem]) (by decide) ?_
  simp only [go_sem]
  refine opA_app_vec (Nat.le_refl _) (sz := 1) (bytes := 4) (by simp only [go_sem, AppTy] <;> decide) limb_len [low] xs (by simp only [go_sem] <;> rfl) rfl (by simp only [go_sem] <;> rfl) (by simp only [go_sem] <;> rfl) rfl (by simp; omega) (by decide) ?_
  simp only [go_sem]
  refine call_frz 6 1 (xs.length + 1) rfl (r_trim (low :: xs) (by simp; omega)) (by simp only [go_sem] <;> rfl) (by rw [show xs.length + 1 = (low :: xs).length from rfl]; exact treeOf_L limb_len) ?_ ?_
  · simp only [go_sem] <;> rfl
  · simp only [go_sem]
    exact fz_eL

def SmallI (x : List Nat) (m i : Nat) (ds : List Nat) (c : Nat) : Prop := ds.length = i ∧ (∀ z ∈ ds, z < BB) ∧ c < BB ∧ val ds + BB ^ i * c = m * val (x.take i)
theorem SmallI.next {x ds : List Nat} {m i c t : Nat} (h : SmallI x m i ds c) (hx : ∀ z ∈ x, z < BB) (hm : m < BB) (ht : t = c + x.getD i 0 * m) : SmallI x m (i + 1) (ds ++ [t % BB]) (t / BB) := by
  obtain ⟨h1, h2, h3, h4⟩ := h
  have hxk : x.getD i 0 < BB := by
    by_cases h : i < x.length
    · simp [h]; exact hx _ (List.getElem_mem h)
    · simp [show x.length ≤ i by omega, BB]
  refine ⟨by simp [h1], fun z hz => ?_, ?_, ?_⟩
  · rcases List.mem_append.1 hz with hz | hz
    · exact h2 z hz
    · simp at hz; subst hz; exact Nat.mod_lt _ (by decide)
  · have : x.getD i 0 * m ≤ 999999999 * 999999999 := Nat.mul_le_mul (by simp only [BB] at hxk; omega) (by simp only [BB] at hm; omega)
    simp only [BB] at h3 ⊢; omega
  · rw [val_append, val_take, h1, Nat.pow_succ, Nat.mul_assoc, Nat.mul_add, ← h4]
    have e4 := congrArg (BB ^ i * ·) ((Nat.mod_add_div t BB).trans ht)
    simp only [Nat.mul_add] at e4
    simp only [val, Nat.mul_zero, Nat.add_zero]
    have e5 : m * (BB ^ i * x.getD i 0) = BB ^ i * (x.getD i 0 * m) := by rw [Nat.mul_comm m, Nat.mul_assoc]
    rw [e5]; omega
theorem SmallI.done {x ds : List Nat} {m i : Nat} (h : SmallI x m i ds 0) (hi : x.length ≤ i) : trimZ ds = dig (m * val x) := by
  obtain ⟨h1, h2, h3, h4⟩ := h
  rw [List.take_of_length_le hi, Nat.mul_zero, Nat.add_zero] at h4
  rw [trimZ_lt h2, h4]

set_option maxRecDepth 100000 in
theorem r_small (x : List Nat) (m : Nat) (hl : x.length < 10000000000000) (hx : ∀ z ∈ x, z < BB) (hm : m < BB) : PCall Tryz.prog 107 [tN x, tI .u64 m] (tN (dig (m * val x))) := by
  refine pcall_of_wpA mixed Tryz.call107 Tryz.func107 rfl Tryz.ntmps107 Tryz.results107 (by simp) (by decide) ?_
  simp only [go_sem]
  have hm' := hm
  simp only [BB] at hm'
  refine loop_inv (fun p : List Nat × Nat => match p.1 with
      | [] => stL 41 [(0, aN x), (1, litI .u64 m), (5, .one (.t (.seq (some true) []))), (6, litI .u64 p.2), (7, litI .i64 0)] []
      | _ :: _ => stL 41 [(0, aN x), (1, litI .u64 m), (5, .one (.vec 36 1 0 p.1.length)), (6, litI .u64 p.2), (7, litI .i64 p.1.length)] [(36, cN p.1)])
    (fun p => p.1.length ≤ x.length + 1 ∧ SmallI x m p.1.length p.1 p.2 ∧ (x.length < p.1.length → p.2 = 0)) (fun p => x.length + 1 - p.1.length) ([], 0) ?_ ⟨Nat.zero_le _, ⟨rfl, by simp, by decide, by simp [val]⟩, fun _ => rfl⟩ ?_
  · refine gstep_list rfl ?_ ?_ rfl ?_ <;> simp only [go_sem] <;> simp
  · rintro ⟨ds, c⟩ ⟨hdl, hs, hz⟩
    simp only at hdl hs hz
    by_cases hlt : ds.length < x.length
    · have hltI : (ds.length : Int) < (x.length : Int) := by omega
      have hxi := hx _ (List.getElem_mem hlt)
      simp only [BB] at hxi
      have hc := hs.2.2.1
      simp only [BB] at hc
      have hprod : x[ds.length] * m ≤ 999999999 * 999999999 := Nat.mul_le_mul (by omega) (by omega)
      have et : (c : Int) + (x[ds.length] : Int) * (m : Int) = ((c + x[ds.length] * m : Nat) : Int) := by omega
      have hel : elemD limb x ds.length = limb x[ds.length] := elemD_lt hlt
      have hnx := hs.next hx hm (t := c + x[ds.length] * m) (by simp [hlt])
      generalize c + x[ds.length] * m = t at *
      generalize x[ds.length] = xi at *
      have htm : t % 1000000000 < 1000000000 := Nat.mod_lt _ (by decide)
      cases ds with
      | nil =>
        simp only [List.length_nil] at *
        have hltI : (0 : Int) < (x.length : Int) := by omega
        ((try simp only [go_sem, hltI, hel, et, tmodB, tdivB]); (try simp (disch := omega) only [wrap_i64, wrap_u64, wrap_u32, elemD_lt, hltI, hel, et, tmodB, tdivB]); (try simp only [go_sem, hltI, hel, et, tmodB, tdivB]); (try simp (disch := omega) only [wrap_i64, wrap_u64, wrap_u32, elemD_lt, hltI, hel, et, tmodB, tdivB]); (try simp only [go_sem, hltI, hel, et, tmodB, tdivB]))
        refine opA_app_nil (Nat.le_refl _) (sz := 1) (bytes := 4) (by simp only [go_sem, AppTy] <;> decide) limb_len [t % 1000000000] (by simp only [go_sem] <;> rfl) (by simp only [go_sem] <;> rfl) rfl (by simp) (by simp) (by simp only [go_sem]) (by decide) ?_
        ((try simp only [go_sem, tdivB]); (try simp (disch := omega) only [wrap_i64, wrap_u64, wrap_u32, elemD_lt, tdivB]); (try simp only [go_sem, tdivB]); (try simp (disch := omega) only [wrap_i64, wrap_u64, wrap_u32, elemD_lt, tdivB]); (try simp only [go_sem, tdivB]))
        refine ⟨(([] : List Nat) ++ [t % 1000000000], t / 1000000000), ⟨by simp only [List.length_append, List.length_cons, List.length_nil] at *; omega, by simpa [BB] using hnx, fun h => by simp only [List.length_append, List.length_cons, List.length_nil] at h; omega⟩, (by show x.length + 1 - (([] : List Nat) ++ [t % 1000000000]).length < x.length + 1 - ([] : List Nat).length; simp only [List.length_append, List.length_cons, List.length_nil] at *; omega), ?_⟩
        refine gstep_list rfl ?_ ?_ rfl ?_ <;> ((try simp only [go_sem, cellsL_refs, List.length_append, List.length_cons, List.length_nil]); (try simp (disch := omega) only [wrap_i64, wrap_u64, wrap_u32, elemD_lt, cellsL_refs, List.length_append, List.length_cons, List.length_nil]); (try simp only [go_sem, cellsL_refs, List.length_append, List.length_cons, List.length_nil]); (try simp (disch := omega) only [wrap_i64, wrap_u64, wrap_u32, elemD_lt, cellsL_refs, List.length_append, List.length_cons, List.length_nil]); (try simp only [go_sem, cellsL_refs, List.length_append, List.length_cons, List.length_nil])) <;> simp
      | cons d0 l =>
        simp only [List.length_cons] at *
        have hltI : (l.length : Int) + 1 < (x.length : Int) := by omega
        have htn : ((l.length : Int) + 1).toNat = l.length + 1 := by omega
        ((try simp only [go_sem, hltI, htn, hel, et, tmodB, tdivB]); (try simp (disch := omega) only [wrap_i64, wrap_u64, wrap_u32, elemD_lt, hltI, htn, hel, et, tmodB, tdivB]); (try simp only [go_sem, hltI, htn, hel, et, tmodB, tdivB]); (try simp (disch := omega) only [wrap_i64, wrap_u64, wrap_u32, elemD_lt, hltI, htn, hel, et, tmodB, tdivB]); (try simp only [go_sem, hltI, htn, hel, et, tmodB, tdivB]))
        refine ⟨by omega, ?_⟩
        refine opA_app_vec (Nat.le_refl _) (sz := 1) (bytes := 4) (by simp only [go_sem, AppTy] <;> decide) limb_len (d0 :: l) [t % 1000000000] (by simp only [go_sem] <;> rfl) rfl (by simp only [go_sem]) (by simp only [go_sem] <;> rfl) rfl (by simp only [List.length_cons] at *; simp; omega) (by decide) ?_
        ((try simp only [go_sem, tdivB]); (try simp (disch := omega) only [wrap_i64, wrap_u64, wrap_u32, elemD_lt, tdivB]); (try simp only [go_sem, tdivB]); (try simp (disch := omega) only [wrap_i64, wrap_u64, wrap_u32, elemD_lt, tdivB]); (try simp only [go_sem, tdivB]))
        refine ⟨((d0 :: l) ++ [t % 1000000000], t / 1000000000), ⟨by simp only [List.length_append, List.length_cons, List.length_nil] at *; omega, by simpa [BB] using hnx, fun h => by simp only [List.length_append, List.length_cons, List.length_nil] at h; omega⟩, (by show x.length + 1 - ((d0 :: l) ++ [t % 1000000000]).length < x.length + 1 - (d0 :: l).length; simp only [List.length_append, List.length_cons, List.length_nil] at *; omega), ?_⟩
        refine gstep_list rfl ?_ ?_ rfl ?_ <;> ((try simp only [go_sem, cellsL_refs, List.length_append, List.length_cons, List.length_nil]); (try simp (disch := omega) only [wrap_i64, wrap_u64, wrap_u32, elemD_lt, cellsL_refs, List.length_append, List.length_cons, List.length_nil]); (try simp only [go_sem, cellsL_refs, List.length_append, List.length_cons, List.length_nil]); (try simp (disch := omega) only [wrap_i64, wrap_u64, wrap_u32, elemD_lt, cellsL_refs, List.length_append, List.length_cons, List.length_nil]); (try simp only [go_sem, cellsL_refs, List.length_append, List.length_cons, List.length_nil])) <;> simp
    · by_cases hc0 : c = 0
      · subst hc0
        have hdn := hs.done (by omega)
        cases ds with
        | nil =>
          simp only [List.length_nil] at *
          have hltI : ¬ (0 : Int) < (x.length : Int) := by omega
          ((try simp only [go_sem, hltI]); (try simp (disch := omega) only [wrap_i64, wrap_u64, wrap_u32, elemD_lt, hltI]); (try simp only [go_sem, hltI]); (try simp (disch := omega) only [wrap_i64, wrap_u64, wrap_u32, elemD_lt, hltI]); (try simp only [go_sem, hltI]))
          refine call_fz (tvs' := [.one (.seq (some true) [])]) (r_trim [] (by simp)) rfl (.cons fzW .nil) ?_
          simp only [go_sem]
          rw [hdn]; exact fz_eL
        | cons d0 l =>
          have hltI : ¬ (l.length : Int) + 1 < (x.length : Int) := by simp only [List.length_cons] at hlt; omega
          ((try simp only [go_sem, hltI]); (try simp (disch := omega) only [wrap_i64, wrap_u64, wrap_u32, elemD_lt, hltI]); (try simp only [go_sem, hltI]); (try simp (disch := omega) only [wrap_i64, wrap_u64, wrap_u32, elemD_lt, hltI]); (try simp only [go_sem, hltI]))
          refine call_frz 36 1 (l.length + 1) rfl (r_trim (d0 :: l) (by simp only [List.length_cons] at *; omega)) (by simp only [go_sem] <;> rfl) (by rw [show l.length + 1 = (d0 :: l).length from rfl]; exact treeOf_L limb_len) ?_ ?_
          · simp only [go_sem] <;> rfl
          · simp only [go_sem]
            rw [hdn]; exact fz_eL
      · have hdx : ds.length = x.length := by
          rcases Nat.lt_or_ge x.length ds.length with h | h
          · exact absurd (hz h) hc0
          · omega
        have hc := hs.2.2.1
        simp only [BB] at hc
        have hcp : (0 : Int) < (c : Int) := by omega
        have hnx := hs.next hx hm (t := c) (by simp [show x.length ≤ ds.length by omega])
        obtain ⟨t, ht⟩ : ∃ t, t = c := ⟨c, rfl⟩
        have htc : (c : Int) = (t : Int) := by omega
        have hzz : t / 1000000000 = 0 := Nat.div_eq_of_lt (by omega)
        rw [← ht] at hnx
        have htm : t % 1000000000 < 1000000000 := Nat.mod_lt _ (by decide)
        cases ds with
        | nil =>
          simp only [List.length_nil] at *
          have hltI : ¬ (0 : Int) < (x.length : Int) := by omega
          have htp : (0 : Int) < (t : Int) := by omega
          ((try simp only [go_sem, hltI, htc, htp, tmodB, tdivB]); (try simp (disch := omega) only [wrap_i64, wrap_u64, wrap_u32, elemD_lt, hltI, htc, htp, tmodB, tdivB]); (try simp only [go_sem, hltI, htc, htp, tmodB, tdivB]); (try simp (disch := omega) only [wrap_i64, wrap_u64, wrap_u32, elemD_lt, hltI, htc, htp, tmodB, tdivB]); (try simp only [go_sem, hltI, htc, htp, tmodB, tdivB]))
          refine opA_app_nil (Nat.le_refl _) (sz := 1) (bytes := 4) (by simp only [go_sem, AppTy] <;> decide) limb_len [t % 1000000000] (by simp only [go_sem] <;> rfl) (by simp only [go_sem] <;> rfl) rfl (by simp) (by simp) (by simp only [go_sem]) (by decide) ?_
          ((try simp only [go_sem, tdivB]); (try simp (disch := omega) only [wrap_i64, wrap_u64, wrap_u32, elemD_lt, tdivB]); (try simp only [go_sem, tdivB]); (try simp (disch := omega) only [wrap_i64, wrap_u64, wrap_u32, elemD_lt, tdivB]); (try simp only [go_sem, tdivB]))
          refine ⟨(([] : List Nat) ++ [t % 1000000000], t / 1000000000), ⟨by simp only [List.length_append, List.length_cons, List.length_nil] at *; omega, by simpa [BB] using hnx, fun _ => hzz⟩, (by show x.length + 1 - (([] : List Nat) ++ [t % 1000000000]).length < x.length + 1 - ([] : List Nat).length; simp only [List.length_append, List.length_cons, List.length_nil] at *; omega), ?_⟩
          refine gstep_list rfl ?_ ?_ rfl ?_ <;> ((try simp only [go_sem, cellsL_refs, List.length_append, List.length_cons, List.length_nil]); (try simp (disch := omega) only [wrap_i64, wrap_u64, wrap_u32, elemD_lt, cellsL_refs, List.length_append, List.length_cons, List.length_nil]); (try simp only [go_sem, cellsL_refs, List.length_append, List.length_cons, List.length_nil]); (try simp (disch := omega) only [wrap_i64, wrap_u64, wrap_u32, elemD_lt, cellsL_refs, List.length_append, List.length_cons, List.length_nil]); (try simp only [go_sem, cellsL_refs, List.length_append, List.length_cons, List.length_nil])) <;> simp
        | cons d0 l =>
          simp only [List.length_cons] at *
          have hltI : ¬ (l.length : Int) + 1 < (x.length : Int) := by omega
          have htp : (0 : Int) < (t : Int) := by omega
          ((try simp only [go_sem, hltI, htc, htp, tmodB, tdivB]); (try simp (disch := omega) only [wrap_i64, wrap_u64, wrap_u32, elemD_lt, hltI, htc, htp, tmodB, tdivB]); (try simp only [go_sem, hltI, htc, htp, tmodB, tdivB]); (try simp (disch := omega) only [wrap_i64, wrap_u64, wrap_u32, elemD_lt, hltI, htc, htp, tmodB, tdivB]); (try simp only [go_sem, hltI, htc, htp, tmodB, tdivB]))
          refine opA_app_vec (Nat.le_refl _) (sz := 1) (bytes := 4) (by simp only [go_sem, AppTy] <;> decide) limb_len (d0 :: l) [t % 1000000000] (by simp only [go_sem] <;> rfl) rfl (by simp only [go_sem]) (by simp only [go_sem] <;> rfl) rfl (by simp only [List.length_cons] at *; simp; omega) (by decide) ?_
          ((try simp only [go_sem, tdivB]); (try simp (disch := omega) only [wrap_i64, wrap_u64, wrap_u32, elemD_lt, tdivB]); (try simp only [go_sem, tdivB]); (try simp (disch := omega) only [wrap_i64, wrap_u64, wrap_u32, elemD_lt, tdivB]); (try simp only [go_sem, tdivB]))
          refine ⟨((d0 :: l) ++ [t % 1000000000], t / 1000000000), ⟨by simp only [List.length_append, List.length_cons, List.length_nil] at *; omega, by simpa [BB] using hnx, fun _ => hzz⟩, (by show x.length + 1 - ((d0 :: l) ++ [t % 1000000000]).length < x.length + 1 - (d0 :: l).length; simp only [List.length_append, List.length_cons, List.length_nil] at *; omega), ?_⟩
          refine gstep_list rfl ?_ ?_ rfl ?_ <;> ((try simp only [go_sem, cellsL_refs, List.length_append, List.length_cons, List.length_nil]); (try simp (disch := omega) only [wrap_i64, wrap_u64, wrap_u32, elemD_lt, cellsL_refs, List.length_append, List.length_cons, List.length_nil]); (try simp only [go_sem, cellsL_refs, List.length_append, List.length_cons, List.length_nil]); (try simp (disch := omega) only [wrap_i64, wrap_u64, wrap_u32, elemD_lt, cellsL_refs, List.length_append, List.length_cons, List.length_nil]); (try simp only [go_sem, cellsL_refs, List.length_append, List.length_cons, List.length_nil])) <;> simp
end Go.Proofs.YtgnfgaioeldagaaGreat
