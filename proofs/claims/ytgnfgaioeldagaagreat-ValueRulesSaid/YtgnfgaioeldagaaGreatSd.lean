/- At every input the call answers true and leaves its arguments as they were; no conditions. -/
import Derived.Test.YtgnfgaioeldagaaGreatSb
import Derived.Test.YtgnfgaioeldagaaGreatSc
import Derived.Test.YtgnfgaioeldagaaGreatKa
set_option linter.unusedSimpArgs false
set_option linter.unusedVariables false
namespace Go.Proofs.YtgnfgaioeldagaaGreat
open Go Go.Abs Go.RowKit
set_option maxHeartbeats 2000000
theorem arr38 {a : Act} (h : a.tmps.size = 38) : a.tmps = #[a.tmps.getD 0 undef, a.tmps.getD 1 undef, a.tmps.getD 2 undef, a.tmps.getD 3 undef, a.tmps.getD 4 undef, a.tmps.getD 5 undef, a.tmps.getD 6 undef, a.tmps.getD 7 undef, a.tmps.getD 8 undef, a.tmps.getD 9 undef, a.tmps.getD 10 undef, a.tmps.getD 11 undef, a.tmps.getD 12 undef, a.tmps.getD 13 undef, a.tmps.getD 14 undef, a.tmps.getD 15 undef, a.tmps.getD 16 undef, a.tmps.getD 17 undef, a.tmps.getD 18 undef, a.tmps.getD 19 undef, a.tmps.getD 20 undef, a.tmps.getD 21 undef, a.tmps.getD 22 undef, a.tmps.getD 23 undef, a.tmps.getD 24 undef, a.tmps.getD 25 undef, a.tmps.getD 26 undef, a.tmps.getD 27 undef, a.tmps.getD 28 undef, a.tmps.getD 29 undef, a.tmps.getD 30 undef, a.tmps.getD 31 undef, a.tmps.getD 32 undef, a.tmps.getD 33 undef, a.tmps.getD 34 undef, a.tmps.getD 35 undef, a.tmps.getD 36 undef, a.tmps.getD 37 undef] := by
  apply Array.ext
  · simp [h]
  · intro i h1 h2
    have hi : i < 38 := by omega
    match i, hi with
    | 0, _ => simp [Array.getD, h]
    | 1, _ => simp [Array.getD, h]
    | 2, _ => simp [Array.getD, h]
    | 3, _ => simp [Array.getD, h]
    | 4, _ => simp [Array.getD, h]
    | 5, _ => simp [Array.getD, h]
    | 6, _ => simp [Array.getD, h]
    | 7, _ => simp [Array.getD, h]
    | 8, _ => simp [Array.getD, h]
    | 9, _ => simp [Array.getD, h]
    | 10, _ => simp [Array.getD, h]
    | 11, _ => simp [Array.getD, h]
    | 12, _ => simp [Array.getD, h]
    | 13, _ => simp [Array.getD, h]
    | 14, _ => simp [Array.getD, h]
    | 15, _ => simp [Array.getD, h]
    | 16, _ => simp [Array.getD, h]
    | 17, _ => simp [Array.getD, h]
    | 18, _ => simp [Array.getD, h]
    | 19, _ => simp [Array.getD, h]
    | 20, _ => simp [Array.getD, h]
    | 21, _ => simp [Array.getD, h]
    | 22, _ => simp [Array.getD, h]
    | 23, _ => simp [Array.getD, h]
    | 24, _ => simp [Array.getD, h]
    | 25, _ => simp [Array.getD, h]
    | 26, _ => simp [Array.getD, h]
    | 27, _ => simp [Array.getD, h]
    | 28, _ => simp [Array.getD, h]
    | 29, _ => simp [Array.getD, h]
    | 30, _ => simp [Array.getD, h]
    | 31, _ => simp [Array.getD, h]
    | 32, _ => simp [Array.getD, h]
    | 33, _ => simp [Array.getD, h]
    | 34, _ => simp [Array.getD, h]
    | 35, _ => simp [Array.getD, h]
    | 36, _ => simp [Array.getD, h]
    | 37, _ => simp [Array.getD, h]
    | i + 38, hi => exact absurd hi (by omega)

theorem val_drop_le : ∀ (xs : List Nat) (i : Nat), val (xs.drop i) ≤ val xs
  | [], i => by simp
  | x :: l, 0 => by simp
  | x :: l, i + 1 => by
    have := val_drop_le l i
    simp only [List.drop_succ_cons, val, BB]; omega

theorem uW_val (xs : List Nat) (hv : val xs < 18446744073709551616) : ∀ k, k ≤ xs.length → uW (bupto (bfn xs) k) = (val (xs.drop (xs.length - k)) : Int) := by
  intro k
  induction k with
  | zero => intro _; simp [bupto, uW, val]
  | succ k ih =>
    intro hk
    have h1 := ih (by omega)
    rw [bupto_succ, uW_snoc, h1]
    have hi : xs.length - (k + 1) < xs.length := by omega
    have hd := List.drop_eq_getElem_cons hi
    have e : xs.length - (k + 1) + 1 = xs.length - k := by omega
    rw [e] at hd
    have h2 := val_drop_le xs (xs.length - (k + 1))
    rw [hd] at h2 ⊢
    have hb : (bfn xs k).2 = xs[xs.length - (k + 1)] := by
      unfold bfn
      rw [show xs.length - 1 - k = xs.length - (k + 1) by omega]
      simp [hi]
    rw [hb]
    simp only [val, BB] at h2 ⊢
    generalize val (xs.drop (xs.length - k)) = m at *
    generalize xs[xs.length - (k + 1)] = z at *
    rw [wrap_u64 (n := (m : Int) * 1000000000) (by omega) (by omega), wrap_u64 (n := (z : Int)) (by omega) (by omega), wrap_u64 (by omega) (by omega)]
    omega

theorem tailVal_eq (x : Int) (h1 : -9223372036854775808 ≤ x) (h2 : x < 9223372036854775808) : tailVal (decide (x < 0)) (dig x.natAbs) = x := by
  have hv : val (dig x.natAbs) = x.natAbs := val_dig _
  have hu := uW_val (dig x.natAbs) (by rw [hv]; omega) (dig x.natAbs).length (Nat.le_refl _)
  rw [Nat.sub_self, List.drop_zero, hv] at hu
  unfold tailVal
  rw [hu]
  by_cases hn : x < 0
  · rw [if_pos (by simpa using hn)]
    have : IntKind.wrap .u64 (-(x.natAbs : Int)) = 18446744073709551616 + x := by
      unfold IntKind.wrap; simp [IntKind.signed, IntKind.bits]; omega
    rw [this]
    unfold IntKind.wrap; simp [IntKind.signed, IntKind.bits]; omega
  · rw [if_neg (by simpa using hn), wrap_i64 (by omega) (by omega)]; omega

theorem w_Small_in (s : Bool) (a : List Nat) (ha : a.length ≤ 9223372036854775807) (h1 : -9223372036854775808 ≤ iv s a) (h2 : iv s a < 9223372036854775808) : PCall Tryz.prog 81 [gI s a] (.tup [tI .i64 (iv s a), tB true]) := by
  refine ⟨Tryz.call81, fun ok w vs hok hv => ?_⟩
  have hll := iv_len s a
  have hl3 : (dig (iv s a).natAbs).length ≤ 3 := dig_length_le (by rw [show BB ^ 3 = 1000000000000000000000000000 from rfl]; omega)
  have key : CallsIn Fence.wide 3 Tryz.prog 81 vs w fun e w' => e = .returned (.tuple #[.int .i64 (iv s a), .bool true]) ∧ w.heap.size ≤ w'.heap.size ∧ (∀ n, n < w.heap.size → w'.heap[n]? = w.heap[n]?) ∧ (w'.os = w.os ∧ w'.output = w.output) := by
    refine callsIn_of_wp_marks Tryz.func81 rfl trivial (wpIn_wide.2 ?_) rfl
    rw [show Tryz.f81.ntmps = 38 from Tryz.ntmps81]
    refine small_prefix s a ha h1 h2 hok hv (fun a' w' c4 c6 hT => ?_) rfl
    obtain ⟨A, len, cap, e1, e2⟩ := hT.s4
    have hw := small_tail_walk Fence.wide 3 trivial trivial trivial rfl (by omega) (a'.tmps.getD 0 undef) (a'.tmps.getD 1 undef) (a'.tmps.getD 2 undef) (a'.tmps.getD 3 undef) (a'.tmps.getD 5 undef) (a'.tmps.getD 7 undef) (a'.tmps.getD 8 undef) (a'.tmps.getD 9 undef) (a'.tmps.getD 10 undef) (a'.tmps.getD 11 undef) (a'.tmps.getD 12 undef) (a'.tmps.getD 13 undef) (a'.tmps.getD 14 undef) (a'.tmps.getD 15 undef) (a'.tmps.getD 16 undef) (a'.tmps.getD 17 undef) (a'.tmps.getD 18 undef) (a'.tmps.getD 19 undef) (a'.tmps.getD 20 undef) (a'.tmps.getD 21 undef) (a'.tmps.getD 22 undef) (a'.tmps.getD 23 undef) (a'.tmps.getD 24 undef) (a'.tmps.getD 25 undef) (a'.tmps.getD 26 undef) (a'.tmps.getD 27 undef) (a'.tmps.getD 28 undef) (a'.tmps.getD 29 undef) (a'.tmps.getD 30 undef) (a'.tmps.getD 31 undef) (a'.tmps.getD 32 undef) (a'.tmps.getD 33 undef) (a'.tmps.getD 34 undef) (a'.tmps.getD 35 undef) (a'.tmps.getD 36 undef) (a'.tmps.getD 37 undef) w' c4 c6 A len cap (decide (iv s a < 0)) (dig (iv s a).natAbs) e1 hT.n4 hT.u6 hT.f6 hT.ne hT.lt e2 (by omega) (fun e w' => e = .returned (.tuple #[.int .i64 (iv s a), .bool true]) ∧ w.heap.size ≤ w'.heap.size ∧ (∀ n, n < w.heap.size → w'.heap[n]? = w.heap[n]?) ∧ (w'.os = w.os ∧ w'.output = w.output))
      (fun W' k2 => ⟨by rw [tailVal_eq _ h1 h2], Nat.le_trans hT.old.1 k2.size, fun n hn => (k2.same n (by have := hT.old.1; omega) (by have := hT.old.2; omega)).trans (hT.same n hn), k2.env.1.trans hT.env.1, k2.env.2.trans hT.env.2⟩)
    rw [← hT.t4, ← hT.t6, ← arr38 hT.size] at hw
    have ha' : a' = { tmps := a'.tmps, defers := [] } := by rw [← hT.defers]
    rw [ha']
    exact wpIn_wide.1 hw
  refine (callsIn_wide.1 key).mono fun e w' ⟨he, g1, g2, g3⟩ => ⟨_, ok, he, ?_, ?_, fun n hn => Nat.lt_of_lt_of_le (hok n hn) g1⟩
  · refine .tup rfl fun j h h' => ?_
    match j, h, h' with
    | 0, _, _ => exact .one (.t (.lit rfl))
    | 1, _, _ => exact .one (.t (.lit rfl))
    | j + 2, h, _ => exact absurd h (by simp [emb.embs])
  · refine ⟨g1, fun n hn _ => g2 n hn, fun n el k hs => ?_, fun b n hb => (by cases hb), fun _ h => h, fun _ h => .inl h, fun _ _ => .inl rfl, g3⟩
    by_cases hn : n < w.heap.size
    · unfold World.shape? at hs ⊢
      rw [g2 n hn]; exact hs
    · unfold World.shape? at hs
      rw [Array.getElem?_eq_none (by omega)] at hs
      cases hs

theorem smallSpec : SmallSpec := fun s a ha h1 h2 => w_Small_in s a ha h1 h2
end Go.Proofs.YtgnfgaioeldagaaGreat
