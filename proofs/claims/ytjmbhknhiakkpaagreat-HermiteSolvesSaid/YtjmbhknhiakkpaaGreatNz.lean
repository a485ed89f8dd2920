/- At every input the call answers true and leaves its arguments as they were; no conditions. -/
import Derived.Test.YtjmbhknhiakkpaaGreatNy
set_option linter.unusedSimpArgs false
set_option linter.unusedVariables false
namespace Go.Abs
/-! ### Solving by the form -/
section
variable (S : HX) (pv : Nat → Int) (kk : Nat → Nat) (b : Nat → Int)
/-- What has been found when so many rows have been gone through. -/
def ySol : Nat → Nat → Int
  | 0 => fun _ => 0
  | r + 1 => if pv r < 0 then ySol r else fun j => if j = kk r then Int.fdiv (b r - smI (fun i => S.h r i * ySol r i) (kk r)) (S.h r (kk r)) else ySol r j
def leftS (r : Nat) : Int := b r - smI (fun i => S.h r i * ySol S pv kk b r i) (kk r)
/-- The row can't be. -/
def badS (r : Nat) : Prop := if pv r < 0 then leftS S pv kk b r ≠ 0 else Int.fmod (leftS S pv kk b r) (S.h r (kk r)) ≠ 0
def oftS (r : Nat) : Rat := if pv r < 0 then Rat.divInt 1 (leftS S pv kk b r + leftS S pv kk b r) else Rat.divInt 1 (S.h r (kk r))
def xSol (n R : Nat) (i : Nat) : Int := smI (fun j => S.u i j * ySol S pv kk b R j) n
end
/-- How often rows go into the sum, when so many have been gone through (from the bad row down). -/
def rsF (S : HX) (pv : Nat → Int) (r : Nat) (q0 : Rat) : Nat → Nat → Rat
  | 0 => fun j => if j = r then q0 else 0
  | t + 1 => if pv (r - 1 - t) < 0 then rsF S pv r q0 t else fun j => if j = r - 1 - t then -(smQ (fun d => rsF S pv r q0 t (r - t + d) * (S.h (r - t + d) (pv (r - 1 - t)).toNat : Rat)) (t + 1) * (S.h (r - 1 - t) (pv (r - 1 - t)).toNat : Rat)⁻¹) else rsF S pv r q0 t j
end Go.Abs
namespace Go.Abs
/-- Hermite's shape; k i pivots stand ahead of row i. -/
structure Shp (g : Nat → Nat → Int) (R n : Nat) (k : Nat → Nat) : Prop where
  k0 : k 0 = 0
  right : ∀ i j, i < R → k i < j → j < n → g i j = 0
  out : ∀ i, i < R → n ≤ k i → k (i + 1) = k i
  nonneg : ∀ i, i < R → k i < n → 0 ≤ g i (k i)
  zero : ∀ i, i < R → k i < n → g i (k i) = 0 → k (i + 1) = k i
  piv : ∀ i, i < R → k i < n → 0 < g i (k i) → k (i + 1) = k i + 1 ∧ ∀ j, j < k i → 0 ≤ g i j ∧ g i j < g i (k i)
theorem Shp.le {g : Nat → Nat → Int} {R n : Nat} {k : Nat → Nat} (h : Shp g R n k) : ∀ i, i ≤ R → k i ≤ n ∧ k i ≤ i
  | 0, _ => by rw [h.k0]; omega
  | i + 1, hi => by
    have ih := h.le i (by omega)
    by_cases c : n ≤ k i
    · rw [h.out i (by omega) c]; omega
    · by_cases c2 : g i (k i) = 0
      · rw [h.zero i (by omega) (by omega) c2]; omega
      · have h3 := h.nonneg i (by omega) (by omega)
        rw [(h.piv i (by omega) (by omega) (by omega)).1]; omega
end Go.Abs
namespace Go.Abs
/-! ### What a row comes to -/
section
variable {a : Nat → Nat → Int} {n R r k : Nat} {S : HX}
theorem lefH_inv (hI : InvH a n R S) (hk : k < n) : ∀ m, m ≤ k → InvH a n R (lefH S r k m)
  | 0, _ => hI
  | m + 1, h => (lefH_inv hI hk m (by omega)).less hk (by omega) (by omega) _
theorem hd_range {p : Nat} (h : (hdE S r k).1 = some p) : k ≤ p ∧ p < S.n := by
  have := lstH_spec (S.h r) k (S.n - k)
  change match (hdE S r k).1 with | none => _ | some p => _ at this
  rw [h] at this
  have h1 : k ≤ p ∧ p < k + (S.n - k) := ⟨this.2.1, this.2.2.1⟩
  omega
theorem stE_inv {S' : HX} (hI : InvH a n R S) (h : stE S r k = some S') : InvH a n R S' := by
  unfold stE at h
  split at h
  · cases h
  · rename_i p hp
    have hr := hd_range hp
    have en := hI.en
    split at h
    · cases h
    · cases h
      exact redH_inv (hI.swap (by omega) (by omega)) _ (by omega)
theorem itE_inv (hI : InvH a n R S) : ∀ t, InvH a n R (itE S r k t)
  | 0 => hI
  | t + 1 => by
    have ih := itE_inv hI t
    rw [itE]
    split
    · rename_i S' h; exact stE_inv ih h
    · exact ih
theorem sgnH_inv (hI : InvH a n R S) : InvH a n R (sgnH S r k) := by
  unfold sgnH; split
  · exact hI.turn k
  · exact hI
theorem endE_inv (hI : InvH a n R S) : InvH a n R (endE S r k).1 := by
  unfold endE
  split
  · exact hI
  · rename_i p hp
    have hr := hd_range hp
    have en := hI.en
    exact lefH_inv (sgnH_inv (hI.swap (by omega) (by omega))) (by omega) _ (Nat.le_refl _)
theorem rowH_inv (hI : InvH a n R S) : InvH a n R (rowH S r k).1 := endE_inv (itE_inv hI _)
theorem start_inv : InvH a n R (startH a n R) where
  en := rfl
  eR := rfl
  hau := fun r hr c hc => by
    show a r c = smI (fun k => a r k * dltI k c) n
    rw [smI_single hc fun j _ hne => by unfold dltI; rw [if_neg hne, Int.mul_zero]]
    unfold dltI; rw [if_pos rfl, Int.mul_one]
  uv := fun i j hi hj => by
    show smI (fun k => dltI i k * dltI k j) n = _
    rw [smI_single hi fun q _ hne => by unfold dltI; rw [if_neg (fun h => hne h.symm), Int.zero_mul]]
    unfold dltI; rw [if_pos rfl, Int.one_mul]
  vu := fun i j hi hj => by
    show smI (fun k => dltI i k * dltI k j) n = _
    rw [smI_single hi fun q _ hne => by unfold dltI; rw [if_neg (fun h => hne h.symm), Int.zero_mul]]
    unfold dltI; rw [if_pos rfl, Int.one_mul]
theorem madeS_inv : ∀ r, InvH a n R (madeS a n R r).1
  | 0 => start_inv
  | r + 1 => rowH_inv (madeS_inv r)
/-! Rows ahead stay. -/
theorem swap_keep {q p : Nat} (hp : k ≤ p) (hpn : p < S.n) (h0 : ∀ c, k ≤ c → c < S.n → S.h q c = 0) (c : Nat) : (S.swap p k).h q c = S.h q c := by
  show S.h q (swN p k c) = S.h q c
  unfold swN
  split
  · rename_i e; rw [h0 k (Nat.le_refl _) (by omega), e, h0 p hp hpn]
  · split
    · rename_i e; rw [h0 p hp hpn, e, h0 k (Nat.le_refl _) (by omega)]
    · rfl
theorem less_keep {q i : Nat} {z : Int} (h0 : S.h q k = 0) (c : Nat) : (S.less k i z).h q c = S.h q c := by
  show (if c = i then S.h q c - z * S.h q k else S.h q c) = S.h q c
  rw [h0, Int.mul_zero, Int.sub_zero]; split <;> rfl
theorem redH_keep {q : Nat} (h0 : S.h q k = 0) : ∀ m c, (redH S r k m).h q c = S.h q c
  | 0, _ => rfl
  | m + 1, c => by
    show ((redH S r k m).less k (k + 1 + m) _).h q c = _
    rw [less_keep (by rw [redH_keep h0 m]; exact h0), redH_keep h0 m]
theorem lefH_keep {q : Nat} (h0 : S.h q k = 0) : ∀ m c, (lefH S r k m).h q c = S.h q c
  | 0, _ => rfl
  | m + 1, c => by
    show ((lefH S r k m).less k m _).h q c = _
    rw [less_keep (by rw [lefH_keep h0 m]; exact h0), lefH_keep h0 m]
theorem stE_keep {q : Nat} {S' : HX} (h0 : ∀ c, k ≤ c → c < S.n → S.h q c = 0) (h : stE S r k = some S') (c : Nat) : S'.h q c = S.h q c := by
  unfold stE at h
  split at h
  · cases h
  · rename_i p hp
    have hr := hd_range hp
    split at h
    · cases h
    · cases h
      have := swap_keep (p := p) hr.1 hr.2 h0
      rw [redH_keep (by rw [this]; exact h0 k (Nat.le_refl _) (by omega)), this]
theorem itE_keep {q : Nat} (h0 : ∀ c, k ≤ c → c < S.n → S.h q c = 0) : ∀ t c, (itE S r k t).h q c = S.h q c
  | 0, _ => rfl
  | t + 1, c => by
    have ih := itE_keep h0 t
    have hd := (itE_dim (S := S) (r := r) (k := k) t).1
    rw [itE]
    split
    · rename_i S' h
      rw [stE_keep (fun c hc hcn => by rw [ih]; exact h0 c hc (by omega)) h, ih]
    · exact ih c
theorem sgnH_keep {q : Nat} (h0 : S.h q k = 0) (c : Nat) : (sgnH S r k).h q c = S.h q c := by
  unfold sgnH; split
  · show (if c = k then -(S.h q c) else S.h q c) = _
    split
    · rename_i e; rw [e, h0]; rfl
    · rfl
  · rfl
theorem endE_keep {q : Nat} (h0 : ∀ c, k ≤ c → c < S.n → S.h q c = 0) (c : Nat) : (endE S r k).1.h q c = S.h q c := by
  unfold endE
  split
  · rfl
  · rename_i p hp
    have hr := hd_range hp
    have h1 := swap_keep (p := p) hr.1 hr.2 h0
    have h2 : (S.swap p k).h q k = 0 := by rw [h1]; exact h0 k (Nat.le_refl _) (by omega)
    have h3 := sgnH_keep (r := r) h2
    show (lefH (sgnH (S.swap p k) r k) r k k).h q c = _
    rw [lefH_keep (by rw [h3]; exact h2), h3, h1]
theorem rowH_keep {q : Nat} (h0 : ∀ c, k ≤ c → c < S.n → S.h q c = 0) (c : Nat) : (rowH S r k).1.h q c = S.h q c := by
  unfold rowH
  have h1 := itE_keep (r := r) h0 (fuE S r k)
  have hd := (itE_dim (S := S) (r := r) (k := k) (fuE S r k)).1
  rw [endE_keep (fun c hc hcn => by rw [h1]; exact h0 c hc (by omega)), h1]
/-! The row itself. -/
theorem lefH_row : ∀ m c, m ≤ k → (lefH S r k m).h r c = if c < m then S.h r c - Int.fdiv (S.h r c) (S.h r k) * S.h r k else S.h r c
  | 0, c, _ => by rw [if_neg (Nat.not_lt_zero _)]; rfl
  | m + 1, c, h => by
    have ih := fun c => lefH_row m c (by omega)
    have hk : (lefH S r k m).h r k = S.h r k := by rw [ih, if_neg (by omega)]
    have hm : (lefH S r k m).h r m = S.h r m := by rw [ih, if_neg (by omega)]
    show (if c = m then (lefH S r k m).h r c - Int.fdiv ((lefH S r k m).h r m) ((lefH S r k m).h r k) * (lefH S r k m).h r k else (lefH S r k m).h r c) = _
    rw [hk, hm]
    by_cases e : c = m
    · rw [if_pos e, if_pos (by omega), e, hm]
    · rw [if_neg e, ih]
      by_cases e2 : c < m
      · rw [if_pos e2, if_pos (by omega)]
      · rw [if_neg e2, if_neg (by omega)]
theorem endE_row (hst : stE S r k = none) (hk : k ≤ S.n) :
    ((endE S r k).2 = false ∧ ∀ c, k ≤ c → c < S.n → (endE S r k).1.h r c = 0) ∨
    ((endE S r k).2 = true ∧ k < S.n ∧ 0 < (endE S r k).1.h r k ∧ (∀ c, k < c → c < S.n → (endE S r k).1.h r c = 0) ∧ ∀ c, c < k → 0 ≤ (endE S r k).1.h r c ∧ (endE S r k).1.h r c < (endE S r k).1.h r k) := by
  have hsp := lstH_spec (S.h r) k (S.n - k)
  change match (hdE S r k).1 with | none => (hdE S r k).2 = 0 ∧ _ | some p => 1 ≤ (hdE S r k).2 ∧ _ ∧ _ ∧ _ ∧ _ ∧ ((hdE S r k).2 = 1 ↔ _) at hsp
  unfold stE at hst
  unfold endE
  cases hp : (hdE S r k).1 with
  | none =>
    rw [hp] at hsp
    left
    exact ⟨rfl, fun c h1 h2 => hsp.2 c h1 (by omega)⟩
  | some p =>
    rw [hp] at hsp hst
    obtain ⟨h1, h2, h3, h4, h5, h6⟩ := hsp
    have hc1 : (hdE S r k).2 = 1 := by
      by_cases c : (hdE S r k).2 = 1
      · exact c
      · simp only [if_neg c] at hst; cases hst
    have hz := h6.1 hc1
    right
    have hsw : ∀ c, (S.swap p k).h r c = S.h r (swN p k c) := fun c => rfl
    have hswk : (S.swap p k).h r k = S.h r p := by
      rw [hsw]; unfold swN
      split
      · rename_i e; rw [e]
      · rw [if_pos rfl]
    have hswo : ∀ c, k < c → c < S.n → (S.swap p k).h r c = 0 := fun c hc hcn => by
      rw [hsw]; unfold swN
      split
      · rename_i e
        by_cases ek : k = p
        · omega
        · exact hz k (Nat.le_refl _) (by omega) ek
      · rename_i e
        rw [if_neg (by omega)]
        exact hz c (by omega) (by omega) e
    obtain ⟨S1, hS1⟩ : ∃ S1, S1 = pivH S r k p := ⟨_, rfl⟩
    have hS1k : 0 < S1.h r k ∧ ∀ c, k < c → c < S.n → S1.h r c = 0 := by
      rw [hS1]
      unfold pivH sgnH
      by_cases hn : (S.swap p k).h r k < 0
      · rw [if_pos hn]
        refine ⟨?_, fun c hc hcn => ?_⟩
        · show 0 < (if k = k then -((S.swap p k).h r k) else _); rw [if_pos rfl]; omega
        · show (if c = k then _ else (S.swap p k).h r c) = 0; rw [if_neg (by omega)]; exact hswo c hc hcn
      · rw [if_neg hn]
        refine ⟨?_, hswo⟩
        rw [hswk] at hn ⊢; omega
    have hl := fun c => lefH_row (S := S1) (r := r) (k := k) k c (Nat.le_refl _)
    show true = true ∧ k < S.n ∧ 0 < (lefH (pivH S r k p) r k k).h r k ∧ (∀ c, k < c → c < S.n → (lefH (pivH S r k p) r k k).h r c = 0) ∧ ∀ c, c < k → 0 ≤ (lefH (pivH S r k p) r k k).h r c ∧ (lefH (pivH S r k p) r k k).h r c < (lefH (pivH S r k p) r k k).h r k
    rw [← hS1]
    have hkk : (lefH S1 r k k).h r k = S1.h r k := by rw [hl, if_neg (Nat.lt_irrefl _)]
    refine ⟨rfl, by omega, by rw [hkk]; exact hS1k.1, fun c hc hcn => by rw [hl, if_neg (by omega)]; exact hS1k.2 c hc hcn, fun c hc => ?_⟩
    rw [hkk, hl, if_pos hc]
    exact fmod_pos hS1k.1
end
end Go.Abs
namespace Go.Abs
/-! ### Bounds on all that a row runs through -/
theorem fdiv_abs_le (x y : Int) : (Int.fdiv x y).natAbs ≤ x.natAbs + 1 := by
  by_cases hy : y = 0
  · rw [hy, Int.fdiv_zero]; omega
  · have h := fdiv_le (x := x) hy
    have hy1 : 1 ≤ y.natAbs := by omega
    generalize (Int.fdiv x y).natAbs = q at *
    generalize y.natAbs = b at *
    rcases Nat.lt_or_ge (x.natAbs + 1) q with c | c
    · have h1 : (x.natAbs + 2) * b ≤ q * b := Nat.mul_le_mul_right _ (by omega)
      have h2 : (x.natAbs + 2) * b = x.natAbs * b + 2 * b := by rw [Nat.add_mul]
      have h3 : x.natAbs * 1 ≤ x.natAbs * b := Nat.mul_le_mul_left _ hy1
      omega
    · exact c
section
variable {n R r k : Nat} {S : HX}
theorem lefH_at : ∀ m, m ≤ k → (∀ p c, (lefH S r k m).h p c = if c < m then S.h p c - Int.fdiv (S.h r c) (S.h r k) * S.h p k else S.h p c) ∧ (∀ p c, (lefH S r k m).u p c = if c < m then S.u p c - Int.fdiv (S.h r c) (S.h r k) * S.u p k else S.u p c) ∧
    ∀ p c, (lefH S r k m).v p c = if p = k then S.v k c + smI (fun i => Int.fdiv (S.h r i) (S.h r k) * S.v i c) m else S.v p c
  | 0, _ => ⟨fun p c => by rw [if_neg (Nat.not_lt_zero _)]; rfl, fun p c => by rw [if_neg (Nat.not_lt_zero _)]; rfl, fun p c => by
      show S.v p c = _
      split
      · rename_i e; rw [e]; show _ = S.v k c + 0; omega
      · rfl⟩
  | m + 1, h => by
    obtain ⟨h1, h2, h3⟩ := lefH_at m (by omega)
    have hq : Int.fdiv ((lefH S r k m).h r m) ((lefH S r k m).h r k) = Int.fdiv (S.h r m) (S.h r k) := by rw [h1, h1, if_neg (Nat.lt_irrefl _), if_neg (by omega)]
    have e : lefH S r k (m + 1) = (lefH S r k m).less k m (Int.fdiv (S.h r m) (S.h r k)) := by rw [← hq]; rfl
    rw [e]
    refine ⟨fun p c => ?_, fun p c => ?_, fun p c => ?_⟩
    · show (if c = m then (lefH S r k m).h p c - _ * (lefH S r k m).h p k else (lefH S r k m).h p c) = _
      rw [h1, h1, if_neg (show ¬ k < m by omega)]
      by_cases e : c = m
      · rw [if_pos e, if_neg (by omega), if_pos (by omega), e]
      · rw [if_neg e]
        by_cases e2 : c < m
        · rw [if_pos e2, if_pos (by omega)]
        · rw [if_neg e2, if_neg (by omega)]
    · show (if c = m then (lefH S r k m).u p c - _ * (lefH S r k m).u p k else (lefH S r k m).u p c) = _
      rw [h2, h2, if_neg (show ¬ k < m by omega)]
      by_cases e : c = m
      · rw [if_pos e, if_neg (by omega), if_pos (by omega), e]
      · rw [if_neg e]
        by_cases e2 : c < m
        · rw [if_pos e2, if_pos (by omega)]
        · rw [if_neg e2, if_neg (by omega)]
    · show (if p = k then (lefH S r k m).v p c + _ * (lefH S r k m).v m c else (lefH S r k m).v p c) = _
      rw [h3, h3, if_neg (show ¬ m = k by omega)]
      by_cases e : p = k
      · rw [if_pos e, if_pos e, if_pos e]
        show S.v k c + smI (fun i => Int.fdiv (S.h r i) (S.h r k) * S.v i c) m + Int.fdiv (S.h r m) (S.h r k) * S.v m c = S.v k c + (smI (fun i => Int.fdiv (S.h r i) (S.h r k) * S.v i c) m + Int.fdiv (S.h r m) (S.h r k) * S.v m c); omega
      · rw [if_neg e, if_neg e, if_neg e]
theorem lefH_bd {E Q : Nat} (hB : BdH n R E S) (hk : k < n) (hQ : ∀ c, c < k → (Int.fdiv (S.h r c) (S.h r k)).natAbs ≤ Q) {m : Nat} (hm : m ≤ k) : BdH n R (E * (1 + n * Q)) (lefH S r k m) := by
  obtain ⟨h1, h2, h3⟩ := lefH_at (S := S) (r := r) (k := k) m hm
  have hle : E * (1 + Q) ≤ E * (1 + n * Q) := Nat.mul_le_mul_left _ (Nat.add_le_add_left (Nat.le_mul_of_pos_left _ (by omega)) _)
  have hle1 : E ≤ E * (1 + n * Q) := Nat.le_mul_of_pos_right _ (by omega)
  refine ⟨fun p c hp hc => ?_, fun p c hp hc => ?_, fun p c hp hc => ?_⟩
  · rw [h1]
    split
    · rename_i e
      exact Nat.le_trans (sub_mul_le (hB.h p c hp hc) (hB.h p k hp hk) (hQ c (by omega))).1 hle
    · exact Nat.le_trans (hB.h p c hp hc) hle1
  · rw [h2]
    split
    · rename_i e
      exact Nat.le_trans (sub_mul_le (hB.u p c hp hc) (hB.u p k hp hk) (hQ c (by omega))).1 hle
    · exact Nat.le_trans (hB.u p c hp hc) hle1
  · rw [h3]
    split
    · have h4 := hB.v k c hk hc
      have h5 := smI_abs (f := fun i => Int.fdiv (S.h r i) (S.h r k) * S.v i c) (K := Q * E) (n := m) fun i hi => by
        rw [Int.natAbs_mul]; exact Nat.mul_le_mul (hQ i (by omega)) (hB.v i c (by omega) hc)
      have h6 : m * (Q * E) ≤ n * (Q * E) := Nat.mul_le_mul_right _ (by omega)
      have h7 : E * (1 + n * Q) = E + n * (Q * E) := by rw [Nat.mul_add, Nat.mul_one, Nat.mul_left_comm, Nat.mul_comm E Q]
      omega
    · exact Nat.le_trans (hB.v p c hp hc) hle1
theorem sgnH_bd {E : Nat} (hB : BdH n R E S) : BdH n R E (sgnH S r k) := by
  unfold sgnH
  split
  · refine ⟨fun p c hp hc => ?_, fun p c hp hc => ?_, fun p c hp hc => ?_⟩
    · have := hB.h p c hp hc
      show (if c = k then -(S.h p c) else S.h p c).natAbs ≤ E; split <;> omega
    · have := hB.u p c hp hc
      show (if c = k then -(S.u p c) else S.u p c).natAbs ≤ E; split <;> omega
    · have := hB.v p c hp hc
      show (if p = k then -(S.v p c) else S.v p c).natAbs ≤ E; split <;> omega
  · exact hB
/-- The bounds of a row. -/
structure BdRow (n R E : Nat) (S : HX) (r k : Nat) : Prop where
  stop : stE (itE S r k (fuE S r k)) r k = none
  go : ∀ t, t < fuE S r k → stE (itE S r k t) r k ≠ none
  it : ∀ t, BdH n R E (itE S r k t)
  red : ∀ t p m, (hdE (itE S r k t) r k).1 = some p → k + 1 + m ≤ n → BdH n R E (redH ((itE S r k t).swap p k) r k m)
  piv : ∀ t p, (hdE (itE S r k t) r k).1 = some p → BdH n R E ((itE S r k t).swap p k)
  lef : ∀ t p m, (hdE (itE S r k t) r k).1 = some p → m ≤ k → BdH n R E (lefH (pivH (itE S r k t) r k p) r k m)
theorem BdRow.out {E : Nat} (h : BdRow n R E S r k) : BdH n R E (rowH S r k).1 := by
  unfold rowH endE
  split
  · exact h.it _
  · rename_i p hp
    exact h.lef _ p k hp (Nat.le_refl _)
theorem row_none (hd : (hdE S r k).1 = none) : fuE S r k = 0 ∧ stE S r k = none ∧ rowH S r k = (S, false) := by
  have h1 : stE S r k = none := by unfold stE; rw [hd]
  have h0 : fuE S r k = 0 := by unfold fuE; rw [hd]; rfl
  refine ⟨h0, h1, ?_⟩
  unfold rowH
  rw [h0]
  show endE S r k = _
  unfold endE; rw [hd]
theorem row_bd0 {E : Nat} (hB : BdH n R E S) (hd : (hdE S r k).1 = none) : BdRow n R E S r k := by
  obtain ⟨h0, h1, _⟩ := row_none hd
  have hit := itE_none h1
  refine ⟨by rw [h0]; exact h1, fun t ht => by omega, fun t => by rw [hit]; exact hB, fun t p m h => ?_, fun t p h => ?_, fun t p m h => ?_⟩
  all_goals (rw [hit, hd] at h; cases h)
theorem row_bd {E b D E1 : Nat} (en : S.n = n) (hr : r < R) (hk : k < n) (hE : 1 ≤ E) (hDe : D = 2 * n + 1) (hD : D * D ≤ 2 ^ b) (hE1 : E1 = E * (D * E * E ^ b)) (hB : BdH n R E S) : BdRow n R (E1 * (1 + n * (E1 + 1))) S r k := by
  have hEE : E ≤ E1 := by
    rw [hE1]
    refine Nat.le_mul_of_pos_right _ (Nat.mul_pos (Nat.mul_pos (by omega) (by omega)) (Nat.pow_pos (by omega)))
  have hE12 : E1 ≤ E1 * (1 + n * (E1 + 1)) := Nat.le_mul_of_pos_right _ (by omega)
  cases hd : (hdE S r k).1 with
  | none => exact row_bd0 (hB.mono (Nat.le_trans hEE hE12)) hd
  | some p =>
    have hrp := hd_range hd
    have hsp := lstH_spec (S.h r) k (S.n - k)
    change match (hdE S r k).1 with | none => _ | some p => _ at hsp
    rw [hd] at hsp
    have hmo : ∀ c, k ≤ c → c < n → (S.h r c).natAbs ≤ E := fun c _ hc => hB.h r c hr hc
    have hH : Hd S n r k (S.h r p).natAbs E := ⟨en, ⟨p, hd, rfl⟩, hmo⟩
    have hmE : (S.h r p).natAbs ≤ E := hmo p hrp.1 (by omega)
    have hit : ∀ t, BdH n R E1 (itE S r k t) := fun t => by
      refine (it_bd hk hDe hD _ S E E hH hB t).mono ?_
      rw [hE1]
      exact Nat.mul_le_mul_left _ (Nat.mul_le_mul_left _ (Nat.pow_le_pow_left hmE _))
    obtain ⟨T, hT1, hT2, hT3⟩ := it_stop (R := R) hk _ S E E hH hB
    have hfu : fuE S r k = T := by
      unfold fuE; rw [hd]
      exact fuS_eq _ S T hT1 hT2 hT3
    have hdim := fun t => (itE_dim (S := S) (r := r) (k := k) t).1
    have hsw : ∀ t p, (hdE (itE S r k t) r k).1 = some p → BdH n R E1 ((itE S r k t).swap p k) := fun t p h => by
      have h1 := hd_range h
      have h2 := hdim t
      exact (hit t).swap (by omega) hk
    refine ⟨by rw [hfu]; exact hT3, by rw [hfu]; exact hT2, fun t => (hit t).mono hE12, fun t p m h hm => ?_, fun t p h => (hsw t p h).mono hE12, fun t p m h hm => ?_⟩
    · exact redH_bd (hsw t p h) hk (fun c _ hc => Nat.le_trans (fdiv_abs_le _ _) (Nat.add_le_add_right ((hsw t p h).h r c hr hc) 1)) m hm
    · have h3 : BdH n R E1 (pivH (itE S r k t) r k p) := sgnH_bd (hsw t p h)
      exact lefH_bd h3 hk (fun c hc => Nat.le_trans (fdiv_abs_le _ _) (Nat.add_le_add_right (h3.h r c hr (by omega)) 1)) hm
end
/-- So many bits. -/
def eeB : Nat → Nat
  | 0 => 96
  | k + 1 => 20 * eeB k + 11
theorem eeB_mono {i : Nat} : ∀ {j : Nat}, i ≤ j → eeB i ≤ eeB j
  | 0, h => by have : i = 0 := by omega
               rw [this]; exact Nat.le_refl _
  | j + 1, h => by
    by_cases e : i = j + 1
    · rw [e]; exact Nat.le_refl _
    · have := eeB_mono (i := i) (j := j) (by omega)
      show eeB i ≤ 20 * eeB j + 11; omega
theorem ee_step {n e E1 : Nat} (hn : n ≤ 6) (hE1 : E1 = 2 ^ e * ((2 * n + 1) * 2 ^ e * (2 ^ e) ^ 8)) : E1 * (1 + n * (E1 + 1)) ≤ 2 ^ (20 * e + 11) := by
  obtain ⟨x, hx⟩ : ∃ x, x = 2 ^ e := ⟨_, rfl⟩
  have hx1 : 1 ≤ x := by rw [hx]; exact Nat.pow_pos (by decide)
  have hp : 2 ^ (20 * e + 11) = x ^ 20 * 2048 := by rw [Nat.pow_add, Nat.mul_comm 20 e, Nat.pow_mul, ← hx]
  rw [← hx] at hE1
  have h10 : E1 ≤ 13 * x ^ 10 := by
    have e1 : E1 = (2 * n + 1) * x ^ 10 := by
      rw [hE1, show x ^ 10 = x * (x * x ^ 8) by rw [← Nat.pow_succ', ← Nat.pow_succ']]
      rw [Nat.mul_assoc, Nat.mul_left_comm]
    rw [e1]
    exact Nat.mul_le_mul_right _ (by omega)
  have hy1 : 1 ≤ x ^ 10 := Nat.pow_pos (by omega)
  obtain ⟨y, hy⟩ : ∃ y, y = x ^ 10 := ⟨_, rfl⟩
  rw [← hy] at h10 hy1
  have h20 : x ^ 20 = y * y := by rw [hy, ← Nat.pow_add]
  rw [hp, h20]
  have h2 : 1 + n * (E1 + 1) ≤ 91 * y := by
    have : n * (E1 + 1) ≤ 6 * (13 * y + 1) := Nat.mul_le_mul hn (by omega)
    omega
  calc E1 * (1 + n * (E1 + 1)) ≤ (13 * y) * (91 * y) := Nat.mul_le_mul h10 h2
    _ = (13 * 91) * (y * y) := by rw [Nat.mul_mul_mul_comm]
    _ ≤ 2048 * (y * y) := Nat.mul_le_mul_right _ (by decide)
    _ = y * y * 2048 := Nat.mul_comm _ _
theorem BdRow.mono {n R r k E E' : Nat} {S : HX} (h : BdRow n R E S r k) (he : E ≤ E') : BdRow n R E' S r k :=
  ⟨h.stop, h.go, fun t => (h.it t).mono he, fun t p m a b => (h.red t p m a b).mono he, fun t p a => (h.piv t p a).mono he, fun t p m a b => (h.lef t p m a b).mono he⟩
theorem it_nz {n R r k E : Nat} {S : HX} (en : S.n = n) (hk : k < n) (hB : ∀ t, BdH n R E (itE S r k t)) (hr : r < R) (h0 : ∃ c, k ≤ c ∧ c < n ∧ S.h r c ≠ 0) : ∀ t, ∃ c, k ≤ c ∧ c < n ∧ (itE S r k t).h r c ≠ 0
  | 0 => h0
  | t + 1 => by
    obtain ⟨c, h1, h2, h3⟩ := it_nz en hk hB hr h0 t
    have hd := itE_dim (S := S) (r := r) (k := k) t
    obtain ⟨m, hH, _⟩ := hd_of (s := E) (hd.1.trans en) h1 h2 h3 fun c _ hc => (hB t).h r c hr hc
    rw [itE]
    split
    · rename_i S' hs
      obtain ⟨_, hm1, _, _, _, y, hy, hyk, _⟩ := stE_some hH hk (hB t) hs
      exact ⟨k, Nat.le_refl _, hk, by rw [hyk]; omega⟩
    · exact ⟨c, h1, h2, h3⟩
theorem row_step {n R r k : Nat} {S : HX} (en : S.n = n) (hr : r < R) (hk : k ≤ n) (hn : n ≤ 6) (hB : BdH n R (2 ^ eeB k) S) : BdRow n R (2 ^ eeB n) S r k ∧ BdH n R (2 ^ eeB (if (rowH S r k).2 then k + 1 else k)) (rowH S r k).1 := by
  cases hh : (hdE S r k).1 with
  | none =>
    obtain ⟨h0, h1, h2⟩ := row_none hh
    rw [h2]
    exact ⟨(row_bd0 hB hh).mono (Nat.pow_le_pow_right (by decide) (eeB_mono hk)), hB⟩
  | some p =>
    have hrp := hd_range hh
    have hkn : k < n := by omega
    have h1 : 1 ≤ 2 ^ eeB k := Nat.pow_pos (by decide)
    have hD : (2 * n + 1) * (2 * n + 1) ≤ 2 ^ 8 := by
      have : (2 * n + 1) * (2 * n + 1) ≤ 13 * 13 := Nat.mul_le_mul (by omega) (by omega)
      omega
    have hrow := row_bd (b := 8) en hr hkn h1 rfl hD rfl hB
    have hst := ee_step (n := n) (e := eeB k) hn rfl
    have hrow2 : BdRow n R (2 ^ eeB (k + 1)) S r k := hrow.mono hst
    have hnz : S.h r p ≠ 0 := by
      have hsp := lstH_spec (S.h r) k (S.n - k)
      change match (hdE S r k).1 with | none => _ | some p => _ at hsp
      rw [hh] at hsp
      exact hsp.2.2.2.1
    obtain ⟨c, hc1, hc2, hc3⟩ := it_nz en hkn hrow2.it hr ⟨p, hrp.1, by omega, hnz⟩ (fuE S r k)
    have htrue : (rowH S r k).2 = true := by
      unfold rowH endE
      split
      · rename_i hd
        have hsp := lstH_spec ((itE S r k (fuE S r k)).h r) k ((itE S r k (fuE S r k)).n - k)
        change match (hdE (itE S r k (fuE S r k)) r k).1 with | none => _ | some p => _ at hsp
        rw [hd] at hsp
        have hdm := (itE_dim (S := S) (r := r) (k := k) (fuE S r k)).1
        exact (hc3 (hsp.2 c hc1 (by omega))).elim
      · rfl
    rw [htrue]
    exact ⟨hrow2.mono (Nat.pow_le_pow_right (by decide) (eeB_mono (by omega))), hrow2.out⟩
/-- The bounds of all rows. -/
theorem made_bd {a : Nat → Nat → Int} {n R : Nat} (hn : n ≤ 6) (ha : ∀ r c, r < R → c < n → (a r c).natAbs ≤ 2 ^ 96) : ∀ r, r ≤ R → BdH n R (2 ^ eeB (madeS a n R r).2) (madeS a n R r).1 ∧ ∀ q, q < r → BdRow n R (2 ^ eeB n) (madeS a n R q).1 q (madeS a n R q).2
  | 0, _ => by
    refine ⟨⟨ha, fun i j _ _ => ?_, fun i j _ _ => ?_⟩, fun q hq => by omega⟩
    · show (dltI i j).natAbs ≤ 2 ^ 96; unfold dltI; split <;> decide
    · show (dltI i j).natAbs ≤ 2 ^ 96; unfold dltI; split <;> decide
  | r + 1, h => by
    obtain ⟨ih1, ih2⟩ := made_bd hn ha r (by omega)
    have hd := madeS_dim (a := a) (n := n) (R := R) r
    have hk := madeS_le (a := a) (n := n) (R := R) r
    obtain ⟨h1, h2⟩ := row_step (r := r) hd.1 (by omega) hk.1 hn ih1
    refine ⟨h2, fun q hq => ?_⟩
    by_cases e : q = r
    · rw [e]; exact h1
    · exact ih2 q (by omega)
theorem madeS_mono1 {a : Nat → Nat → Int} {n R : Nat} (q : Nat) : (madeS a n R q).2 ≤ (madeS a n R (q + 1)).2 := by
  have e : (madeS a n R (q + 1)).2 = if (rowH (madeS a n R q).1 q (madeS a n R q).2).2 then (madeS a n R q).2 + 1 else (madeS a n R q).2 := rfl
  rw [e]; split <;> omega
/-- The shape of the form. -/
theorem made_row {a : Nat → Nat → Int} {n R : Nat} (hn : n ≤ 6) (ha : ∀ r c, r < R → c < n → (a r c).natAbs ≤ 2 ^ 96) {r : Nat} (hr : r < R) : ∀ r', r < r' → r' ≤ R →
    ((madeS a n R (r + 1)).2 = (madeS a n R r).2 ∧ ∀ c, (madeS a n R r).2 ≤ c → c < n → (madeS a n R r').1.h r c = 0) ∨
    ((madeS a n R (r + 1)).2 = (madeS a n R r).2 + 1 ∧ (madeS a n R r).2 < n ∧ 0 < (madeS a n R r').1.h r (madeS a n R r).2 ∧ (∀ c, (madeS a n R r).2 < c → c < n → (madeS a n R r').1.h r c = 0) ∧
      ∀ c, c < (madeS a n R r).2 → 0 ≤ (madeS a n R r').1.h r c ∧ (madeS a n R r').1.h r c < (madeS a n R r').1.h r (madeS a n R r).2) := by
  have hkl := madeS_le (a := a) (n := n) (R := R) r
  have hdm := madeS_dim (a := a) (n := n) (R := R) r
  have hbd := (made_bd hn ha (r + 1) (by omega)).2 r (by omega)
  have e1 : (madeS a n R (r + 1)).1 = (rowH (madeS a n R r).1 r (madeS a n R r).2).1 := rfl
  have e2 : (madeS a n R (r + 1)).2 = if (rowH (madeS a n R r).1 r (madeS a n R r).2).2 then (madeS a n R r).2 + 1 else (madeS a n R r).2 := rfl
  have hdi := itE_dim (S := (madeS a n R r).1) (r := r) (k := (madeS a n R r).2) (fuE (madeS a n R r).1 r (madeS a n R r).2)
  have hrow := endE_row hbd.stop (by omega)
  change ((rowH (madeS a n R r).1 r (madeS a n R r).2).2 = false ∧ ∀ c, _ → _ → (rowH (madeS a n R r).1 r (madeS a n R r).2).1.h r c = 0) ∨ ((rowH (madeS a n R r).1 r (madeS a n R r).2).2 = true ∧ _ ∧ 0 < (rowH (madeS a n R r).1 r (madeS a n R r).2).1.h r _ ∧ _ ∧ _) at hrow
  -- the row as it is left, and stays
  have keep : ∀ d, r + 1 + d ≤ R → ∀ c, (madeS a n R (r + 1 + d)).1.h r c = (madeS a n R (r + 1)).1.h r c := by
    have hz : ∀ c, (madeS a n R (r + 1)).2 ≤ c → c < n → (madeS a n R (r + 1)).1.h r c = 0 := fun c hc hcn => by
      rw [e1]
      rw [e2] at hc
      rcases hrow with ⟨h1, h2⟩ | ⟨h1, _, _, h2, _⟩
      · rw [h1] at hc; exact h2 c hc (by omega)
      · rw [h1] at hc; exact h2 c (by have : (madeS a n R r).2 + 1 ≤ c := hc; omega) (by omega)
    have hmono : ∀ d, (madeS a n R (r + 1)).2 ≤ (madeS a n R (r + 1 + d)).2 := fun d => by
      induction d with
      | zero => exact Nat.le_refl _
      | succ d ih =>
        exact Nat.le_trans ih (madeS_mono1 (r + 1 + d))
    intro d
    induction d with
    | zero => intro _ c; rfl
    | succ d ih =>
      intro hd c
      have ih := ih (by omega)
      have hdd := madeS_dim (a := a) (n := n) (R := R) (r + 1 + d)
      show (rowH (madeS a n R (r + 1 + d)).1 (r + 1 + d) (madeS a n R (r + 1 + d)).2).1.h r c = _
      rw [rowH_keep (fun c hc hcn => by rw [ih]; exact hz c (Nat.le_trans (hmono d) hc) (by omega)), ih]
  intro r' hr' hr'R
  obtain ⟨d, rfl⟩ : ∃ d, r' = r + 1 + d := ⟨r' - (r + 1), by omega⟩
  have kp := keep d hr'R
  rw [e2]
  rcases hrow with ⟨h1, h2⟩ | ⟨h1, h2, h3, h4, h5⟩
  · left
    rw [h1]
    exact ⟨rfl, fun c hc hcn => by rw [kp, e1]; exact h2 c hc (by omega)⟩
  · right
    rw [h1]
    refine ⟨rfl, by omega, by rw [kp, e1]; exact h3, fun c hc hcn => by rw [kp, e1]; exact h4 c hc (by omega), fun c hc => ?_⟩
    rw [kp, kp, e1]
    exact h5 c hc
theorem made_shp {a : Nat → Nat → Int} {n R : Nat} (hn : n ≤ 6) (ha : ∀ r c, r < R → c < n → (a r c).natAbs ≤ 2 ^ 96) : Shp (madeS a n R R).1.h R n (fun i => (madeS a n R i).2) where
  k0 := rfl
  right := fun i j hi hj hjn => by
    rcases made_row hn ha hi R hi (Nat.le_refl _) with ⟨_, h⟩ | ⟨_, _, _, h, _⟩
    · exact h j (Nat.le_of_lt hj) hjn
    · exact h j hj hjn
  out := fun i hi hk => by
    rcases made_row hn ha hi R hi (Nat.le_refl _) with ⟨h, _⟩ | ⟨_, h, _⟩
    · exact h
    · exact absurd hk (by omega)
  nonneg := fun i hi hk => by
    rcases made_row hn ha hi R hi (Nat.le_refl _) with ⟨_, h⟩ | ⟨_, _, h, _⟩
    · rw [h _ (Nat.le_refl _) hk]; exact Int.le_refl _
    · exact Int.le_of_lt h
  zero := fun i hi hk h0 => by
    rcases made_row hn ha hi R hi (Nat.le_refl _) with ⟨h, _⟩ | ⟨_, _, h, _⟩
    · exact h
    · rw [h0] at h; exact absurd h (by decide)
  piv := fun i hi hk h0 => by
    rcases made_row hn ha hi R hi (Nat.le_refl _) with ⟨_, h⟩ | ⟨h, _, _, _, h2⟩
    · rw [h _ (Nat.le_refl _) hk] at h0; exact absurd h0 (by decide)
    · exact ⟨h, h2⟩
end Go.Abs
namespace Go.Abs
/-! ### Bounds on what is solved -/
section
variable {S : HX} {pv : Nat → Int} {kk : Nat → Nat} {b : Nat → Int} {n R H B : Nat}
/-- So great are the integers that are found. -/
theorem ySol_bd (hH : ∀ r c, r < R → c < n → (S.h r c).natAbs ≤ H) (hb : ∀ r, (b r).natAbs ≤ B) (hn : n ≤ 6) (hH1 : 1 ≤ H) (hB1 : 1 ≤ B) (hk : ∀ r, kk r ≤ n) (hk0 : kk 0 = 0) (hkn : ∀ r, r < R → (pv r < 0 ∧ kk (r + 1) = kk r) ∨ (¬ pv r < 0 ∧ kk (r + 1) = kk r + 1)) :
    ∀ r, r ≤ R → (∀ j, (ySol S pv kk b r j).natAbs ≤ B * (16 * H) ^ kk r) ∧ (r < R → (leftS S pv kk b r).natAbs + 1 ≤ B * (16 * H) ^ (kk r + 1)) := by
  have hleft : ∀ r, r < R → (∀ j, (ySol S pv kk b r j).natAbs ≤ B * (16 * H) ^ kk r) → (leftS S pv kk b r).natAbs + 1 ≤ B * (16 * H) ^ (kk r + 1) := fun r hr hy => by
    obtain ⟨Y, hY⟩ : ∃ Y, Y = B * (16 * H) ^ kk r := ⟨_, rfl⟩
    rw [← hY] at hy
    have h1 : B ≤ Y := by rw [hY]; exact Nat.le_mul_of_pos_right _ (Nat.pow_pos (by omega))
    have h2 := smI_abs (f := fun i => S.h r i * ySol S pv kk b r i) (K := H * Y) (n := kk r) fun i hi => by
      have := hk r
      rw [Int.natAbs_mul]; exact Nat.mul_le_mul (hH r i hr (by omega)) (hy i)
    have h3 : kk r * (H * Y) ≤ 6 * (H * Y) := Nat.mul_le_mul_right _ (by have := hk r; omega)
    have h4 := hb r
    have h5 : B * (16 * H) ^ (kk r + 1) = 16 * (H * Y) := by rw [Nat.pow_succ, ← Nat.mul_assoc, ← hY, Nat.mul_left_comm, Nat.mul_comm Y H]
    have h6 : 1 * Y ≤ H * Y := Nat.mul_le_mul_right _ hH1
    have h7 : (leftS S pv kk b r).natAbs ≤ (b r).natAbs + (smI (fun i => S.h r i * ySol S pv kk b r i) (kk r)).natAbs := by
      show (b r - smI (fun i => S.h r i * ySol S pv kk b r i) (kk r)).natAbs ≤ _; omega
    rw [h5]
    omega
  intro r
  induction r with
  | zero =>
    intro _
    have h0 : ∀ j, (ySol S pv kk b 0 j).natAbs ≤ B * (16 * H) ^ kk 0 := fun j => by
      show (0 : Int).natAbs ≤ _; simp
    exact ⟨h0, fun h => hleft 0 h h0⟩
  | succ r ih =>
    intro hr
    obtain ⟨h1, h2⟩ := ih (by omega)
    have h2 := h2 (by omega)
    have h3 : ∀ j, (ySol S pv kk b (r + 1) j).natAbs ≤ B * (16 * H) ^ kk (r + 1) := fun j => by
      have e : ySol S pv kk b (r + 1) j = (if pv r < 0 then ySol S pv kk b r else fun j => if j = kk r then Int.fdiv (leftS S pv kk b r) (S.h r (kk r)) else ySol S pv kk b r j) j := rfl
      rw [e]
      rcases hkn r (by omega) with ⟨hp, hk1⟩ | ⟨hp, hk1⟩
      · rw [if_pos hp, hk1]; exact h1 j
      · rw [if_neg hp, hk1]
        show (if j = kk r then _ else ySol S pv kk b r j).natAbs ≤ _
        split
        · exact Nat.le_trans (fdiv_abs_le _ _) h2
        · refine Nat.le_trans (h1 j) (Nat.mul_le_mul_left _ ?_)
          exact Nat.pow_le_pow_right (by omega) (by omega)
    exact ⟨h3, fun h => hleft (r + 1) h h3⟩
end
/-! Fractions with one denominator. -/
theorem smQ_frac {A : Nat → Int} {x : Nat → Int} {D : Rat} {m : Nat} : smQ (fun d => (A d : Rat) / D * (x d : Rat)) m = ((smI (fun d => A d * x d) m : Int) : Rat) / D := by
  induction m with
  | zero => show (0 : Rat) = ((0 : Int) : Rat) / D; rw [show ((0 : Int) : Rat) = 0 from rfl, Rat.div_def, Rat.zero_mul]
  | succ m ih =>
    show smQ _ m + (A m : Rat) / D * (x m : Rat) = ((smI _ m + A m * x m : Int) : Rat) / D
    rw [ih, Rat.intCast_add, Rat.intCast_mul, Rat.div_def, Rat.div_def, Rat.div_def]
    grind
theorem rs_frac {S : HX} {pv : Nat → Int} {r : Nat} {q0 : Rat} {H A0 D0 : Nat} (hr : r ≤ 6) (hH1 : 1 ≤ H) (hH : ∀ i j, i < r → j ≤ r → 0 ≤ pv i → (S.h j (pv i).toNat).natAbs ≤ H) (hp : ∀ i, i < r → 0 ≤ pv i → 0 < S.h i (pv i).toNat)
    (hA : q0.num.natAbs ≤ A0) (hD : q0.den ≤ D0) : ∀ t, t ≤ r → ∃ (D : Nat) (A : Nat → Int), 0 < D ∧ D ≤ D0 * H ^ t ∧ (∀ j, rsF S pv r q0 t j = (A j : Rat) / ((D : Int) : Rat)) ∧ ∀ j, (A j).natAbs ≤ A0 * (7 * H) ^ t
  | 0, _ => by
    refine ⟨q0.den, fun j => if j = r then q0.num else 0, Nat.pos_of_ne_zero q0.den_nz, by rw [Nat.pow_zero, Nat.mul_one]; exact hD, fun j => ?_, fun j => ?_⟩
    · show (if j = r then q0 else 0) = (((if j = r then q0.num else 0 : Int)) : Rat) / _
      by_cases e : j = r
      · rw [if_pos e, if_pos e]
        rw [← Rat.divInt_eq_div, Rat.num_divInt_den]
      · rw [if_neg e, if_neg e, show ((0 : Int) : Rat) = 0 from rfl, Rat.div_def, Rat.zero_mul]
    · rw [Nat.pow_zero, Nat.mul_one]
      show (if j = r then q0.num else 0).natAbs ≤ A0
      split
      · exact hA
      · simp
  | t + 1, ht => by
    obtain ⟨D, A, h1, h2, h3, h4⟩ := rs_frac hr hH1 hH hp hA hD t (by omega)
    have e : rsF S pv r q0 (t + 1) = if pv (r - 1 - t) < 0 then rsF S pv r q0 t else fun j => if j = r - 1 - t then -(smQ (fun d => rsF S pv r q0 t (r - t + d) * (S.h (r - t + d) (pv (r - 1 - t)).toNat : Rat)) (t + 1) * (S.h (r - 1 - t) (pv (r - 1 - t)).toNat : Rat)⁻¹) else rsF S pv r q0 t j := rfl
    rw [e]
    have hA7 : A0 * (7 * H) ^ (t + 1) = 7 * (H * (A0 * (7 * H) ^ t)) := by rw [Nat.pow_succ, ← Nat.mul_assoc, Nat.mul_comm, Nat.mul_assoc]
    obtain ⟨AA, hAA⟩ : ∃ AA, AA = A0 * (7 * H) ^ t := ⟨_, rfl⟩
    rw [← hAA] at h4 hA7
    have hHA : 1 * AA ≤ H * AA := Nat.mul_le_mul_right _ hH1
    by_cases c : pv (r - 1 - t) < 0
    · rw [if_pos c]
      refine ⟨D, A, h1, Nat.le_trans h2 (Nat.mul_le_mul_left _ (Nat.pow_le_pow_right hH1 (by omega))), h3, fun j => ?_⟩
      rw [hA7]
      have := h4 j
      omega
    · rw [if_neg c]
      obtain ⟨i, hi⟩ : ∃ i, i = r - 1 - t := ⟨_, rfl⟩
      rw [← hi] at c ⊢
      obtain ⟨k, hk⟩ : ∃ k, k = (pv i).toNat := ⟨_, rfl⟩
      have hpp := hp i (by omega) (by omega)
      have hHi := fun j hj => hH i j (by omega) hj (by omega)
      rw [← hk] at hpp hHi ⊢
      have hpH := hHi i (by omega)
      obtain ⟨p, hpe⟩ : ∃ p : Nat, (p : Int) = S.h i k := ⟨(S.h i k).toNat, by omega⟩
      have hp0 : 0 < p := by omega
      have hpH' : p ≤ H := by omega
      rw [← hpe]
      obtain ⟨s, hs⟩ : ∃ s, s = smI (fun d => A (r - t + d) * S.h (r - t + d) k) (t + 1) := ⟨_, rfl⟩
      have hsum : smQ (fun d => rsF S pv r q0 t (r - t + d) * (S.h (r - t + d) k : Rat)) (t + 1) = (s : Rat) / ((D : Int) : Rat) := by
        rw [hs, ← smQ_frac]
        exact smQ_congr fun d _ => by rw [h3]
      have hsb : s.natAbs ≤ 6 * (H * AA) := by
        rw [hs]
        have := smI_abs (f := fun d => A (r - t + d) * S.h (r - t + d) k) (K := H * AA) (n := t + 1) fun d hd => by
          rw [Int.natAbs_mul, Nat.mul_comm]; exact Nat.mul_le_mul (hHi _ (by omega)) (h4 _)
        exact Nat.le_trans this (Nat.mul_le_mul_right _ (by omega))
      have hDne : ((D : Int) : Rat) ≠ 0 := by
        intro h0
        have : (D : Int) = 0 := by exact_mod_cast h0
        omega
      have hpne : ((p : Int) : Rat) ≠ 0 := by
        intro h0
        have : (p : Int) = 0 := by exact_mod_cast h0
        omega
      have hDp : (((D * p : Nat) : Int) : Rat) = ((D : Int) : Rat) * ((p : Int) : Rat) := by
        rw [Int.natCast_mul, Rat.intCast_mul]
      refine ⟨D * p, fun j => if j = i then -s else A j * (p : Int), Nat.mul_pos h1 hp0, ?_, fun j => ?_, fun j => ?_⟩
      · rw [Nat.pow_succ, ← Nat.mul_assoc]; exact Nat.mul_le_mul h2 hpH'
      · rw [hDp]
        show (if j = i then _ else rsF S pv r q0 t j) = (((if j = i then -s else A j * (p : Int)) : Int) : Rat) / _
        by_cases ej : j = i
        · rw [if_pos ej, if_pos ej, hsum, Rat.intCast_neg, Rat.div_def, Rat.div_def]
          grind
        · rw [if_neg ej, if_neg ej, h3, Rat.intCast_mul, Rat.div_def, Rat.div_def]
          grind
      · rw [hA7]
        show (if j = i then -s else A j * (p : Int)).natAbs ≤ _
        split
        · rw [Int.natAbs_neg]; omega
        · rw [Int.natAbs_mul]
          have h5 : (A j).natAbs * (p : Int).natAbs ≤ AA * H := Nat.mul_le_mul (h4 j) (by omega)
          rw [Nat.mul_comm AA H] at h5
          omega
end Go.Abs
