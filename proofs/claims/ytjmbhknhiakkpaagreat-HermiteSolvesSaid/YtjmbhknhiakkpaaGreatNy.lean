/- At every input the call answers true and leaves its arguments as they were; no conditions. -/
import Derived.Test.YtjmbhknhiakkpaaGreatNx
set_option linter.unusedSimpArgs false
set_option linter.unusedVariables false
namespace Go.Abs
/-! ### Sums of integers -/
theorem smI_zero {f : Nat → Int} : ∀ {n : Nat}, (∀ i, i < n → f i = 0) → smI f n = 0
  | 0, _ => rfl
  | n + 1, h => by rw [smI, smI_zero fun i hi => h i (by omega), h n (by omega)]; rfl
theorem smI_add {f g : Nat → Int} : ∀ {n : Nat}, smI (fun i => f i + g i) n = smI f n + smI g n
  | 0 => rfl
  | n + 1 => by rw [smI, smI, smI, smI_add]; omega
theorem smI_mul {f : Nat → Int} {c : Int} : ∀ {n : Nat}, smI (fun i => c * f i) n = c * smI f n
  | 0 => (Int.mul_zero _).symm
  | n + 1 => by rw [smI, smI, smI_mul, Int.mul_add]
theorem smI_split {f : Nat → Int} {c : Nat} : ∀ {n : Nat}, c < n → smI f n = smI (fun j => if j = c then 0 else f j) n + f c
  | n + 1, h => by
    rcases Nat.lt_or_ge c n with hc | hc
    · rw [smI, smI_split hc, smI, if_neg (by omega)]; omega
    · obtain rfl : c = n := by omega
      rw [smI, smI, if_pos rfl, smI_congr (g := fun j => if j = c then 0 else f j) fun i hi => by rw [if_neg (by omega)]]; omega
theorem smI_single {f : Nat → Int} {c n : Nat} (hc : c < n) (h : ∀ j, j < n → j ≠ c → f j = 0) : smI f n = f c := by
  rw [smI_split hc, smI_zero fun j hj => by
    by_cases e : j = c
    · rw [if_pos e]
    · rw [if_neg e]; exact h j hj e]
  omega
theorem smI_swap {f : Nat → Nat → Int} {m : Nat} : ∀ {n : Nat}, smI (fun i => smI (fun j => f i j) m) n = smI (fun j => smI (fun i => f i j) n) m
  | 0 => (smI_zero fun j _ => rfl).symm
  | n + 1 => by rw [smI, smI_swap, ← smI_add]; rfl
/-! ### The maker of Hermite's form -/
structure HX where
  n : Nat
  R : Nat
  h : Nat → Nat → Int
  u : Nat → Nat → Int
  v : Nat → Nat → Int
def swN (i j c : Nat) : Nat := if c = i then j else if c = j then i else c
namespace HX
def swap (S : HX) (i j : Nat) : HX := ⟨S.n, S.R, fun r c => S.h r (swN i j c), fun r c => S.u r (swN i j c), fun r c => S.v (swN i j r) c⟩
def turn (S : HX) (i : Nat) : HX := ⟨S.n, S.R, fun r c => if c = i then -(S.h r c) else S.h r c, fun r c => if c = i then -(S.u r c) else S.u r c, fun r c => if r = i then -(S.v r c) else S.v r c⟩
def less (S : HX) (i fr : Nat) (q : Int) : HX := ⟨S.n, S.R, fun r c => if c = fr then S.h r c - q * S.h r i else S.h r c, fun r c => if c = fr then S.u r c - q * S.u r i else S.u r c, fun r c => if r = i then S.v r c + q * S.v fr c else S.v r c⟩
end HX
/-- The form is the matrix times one that has an inverse. -/
structure InvH (a : Nat → Nat → Int) (n R : Nat) (S : HX) : Prop where
  en : S.n = n
  eR : S.R = R
  hau : ∀ r, r < R → ∀ c, c < n → S.h r c = smI (fun k => a r k * S.u k c) n
  uv : ∀ i j, i < n → j < n → smI (fun k => S.u i k * S.v k j) n = if i = j then 1 else 0
  vu : ∀ i j, i < n → j < n → smI (fun k => S.v i k * S.u k j) n = if i = j then 1 else 0
theorem smI_single0 {f : Nat → Int} {c n : Nat} (h : ∀ j, j < n → j ≠ c → f j = 0) (h0 : n ≤ c → f c = 0) : smI f n = f c := by
  rcases Nat.lt_or_ge c n with hc | hc
  · exact smI_single hc h
  · rw [smI_zero fun j hj => h j hj (by omega), h0 hc]
section
variable {a : Nat → Nat → Int} {n R : Nat} {S : HX}
theorem InvH.less (hI : InvH a n R S) {i fr : Nat} (hi : i < n) (hf : fr < n) (hne : i ≠ fr) (q : Int) : InvH a n R (S.less i fr q) where
  en := hI.en
  eR := hI.eR
  hau r hr c hc := by
    show (if c = fr then S.h r c - q * S.h r i else S.h r c) = smI (fun k => a r k * (if c = fr then S.u k c - q * S.u k i else S.u k c)) n
    by_cases e : c = fr
    · rw [if_pos e, hI.hau r hr c hc, hI.hau r hr i hi, ← smI_mul, ← smI_sub]
      exact smI_congr fun k _ => by rw [if_pos e, Int.mul_sub, Int.mul_left_comm]
    · rw [if_neg e, hI.hau r hr c hc]
      exact smI_congr fun k _ => by rw [if_neg e]
  uv p j hp hj := by
    rw [← hI.uv p j hp hj]
    have e : ∀ k, k < n → (S.less i fr q).u p k * (S.less i fr q).v k j = S.u p k * S.v k j + ((if k = i then q * (S.u p i * S.v fr j) else 0) + (if k = fr then -(q * (S.u p i * S.v fr j)) else 0)) := fun k _ => by
      show (if k = fr then S.u p k - q * S.u p i else S.u p k) * (if k = i then S.v k j + q * S.v fr j else S.v k j) = _
      by_cases e1 : k = i
      · subst e1
        rw [if_neg hne, if_pos rfl, if_pos rfl, if_neg hne, Int.mul_add, Int.add_zero, Int.mul_left_comm]
      · by_cases e2 : k = fr
        · subst e2
          rw [if_pos rfl, if_neg e1, if_neg e1, if_pos rfl, Int.sub_mul, Int.zero_add, Int.mul_assoc]; omega
        · rw [if_neg e2, if_neg e1, if_neg e1, if_neg e2]; omega
    rw [smI_congr e, smI_add, smI_add, smI_single (c := i) hi fun k _ hk => if_neg hk, smI_single (c := fr) hf fun k _ hk => if_neg hk, if_pos rfl, if_pos rfl]
    omega
  vu p j hp hj := by
    have h1 := hI.vu p j hp hj
    have h2 := hI.vu fr j hf hj
    have h3 := hI.vu p i hp hi
    have h4 := hI.vu fr i hf hi
    have key : smI (fun k => (S.less i fr q).v p k * (S.less i fr q).u k j) n
        = (if p = i then q else 0) * (smI (fun k => S.v fr k * S.u k j) n - (if j = fr then q else 0) * smI (fun k => S.v fr k * S.u k i) n) + (smI (fun k => S.v p k * S.u k j) n - (if j = fr then q else 0) * smI (fun k => S.v p k * S.u k i) n) := by
      rw [← smI_mul, ← smI_sub, ← smI_mul, ← smI_mul, ← smI_sub, ← smI_add]
      refine smI_congr fun k _ => ?_
      show (if p = i then S.v p k + q * S.v fr k else S.v p k) * (if j = fr then S.u k j - q * S.u k i else S.u k j) = _
      by_cases e1 : p = i <;> by_cases e2 : j = fr <;> simp only [e1, e2, if_true, if_false, ↓reduceIte] <;> grind
    rw [key, h1, h2, h3, h4]
    by_cases e1 : p = i <;> by_cases e2 : j = fr <;> simp only [e1, e2, if_true, if_false, ↓reduceIte] <;> (try split) <;> (try split) <;> (try split) <;> first | omega | grind
theorem swN_lt {i j c : Nat} (hi : i < n) (hj : j < n) (hc : c < n) : swN i j c < n := by unfold swN; split; exact hj; split; exact hi; exact hc
theorem swN_inj {i j c d : Nat} (h : swN i j c = swN i j d) : c = d := by
  unfold swN at h
  repeat' split at h
  all_goals omega
theorem smI_sw {f : Nat → Int} {i j : Nat} (hi : i < n) (hj : j < n) : smI (fun k => f (swN i j k)) n = smI f n := by
  by_cases e : i = j
  · subst e
    exact smI_congr fun k _ => by unfold swN; split <;> (try split) <;> first | rfl | (congr 1; omega)
  · have e1 : swN i j i = j := by unfold swN; rw [if_pos rfl]
    have e2 : swN i j j = i := by unfold swN; rw [if_neg (fun h => e h.symm), if_pos rfl]
    have split2 : ∀ g : Nat → Int, smI g n = smI (fun k => if k = j then 0 else if k = i then 0 else g k) n + g j + g i := fun g => by
      rw [smI_split hi, smI_split (f := fun k => if k = i then 0 else g k) hj, if_neg (fun h => e h.symm)]
    rw [split2 fun k => f (swN i j k), split2 f, e1, e2, smI_congr (g := fun k => if k = j then 0 else if k = i then 0 else f k) fun k _ => by
      by_cases h1 : k = j
      · rw [if_pos h1, if_pos h1]
      · rw [if_neg h1, if_neg h1]
        by_cases h2 : k = i
        · rw [if_pos h2, if_pos h2]
        · rw [if_neg h2, if_neg h2]; unfold swN; rw [if_neg h2, if_neg h1]]
    omega
theorem InvH.swap (hI : InvH a n R S) {i j : Nat} (hi : i < n) (hj : j < n) : InvH a n R (S.swap i j) where
  en := hI.en
  eR := hI.eR
  hau r hr c hc := hI.hau r hr _ (swN_lt hi hj hc)
  uv p q hp hq := by
    rw [← hI.uv p q hp hq]
    exact smI_sw (f := fun k => S.u p k * S.v k q) hi hj
  vu p q hp hq := by
    have := hI.vu _ _ (swN_lt hi hj hp) (swN_lt hi hj hq)
    show smI (fun k => S.v (swN i j p) k * S.u k (swN i j q)) n = _
    rw [this]
    by_cases e : p = q
    · rw [if_pos e, if_pos (by rw [e])]
    · rw [if_neg e, if_neg fun h => e (swN_inj h)]
theorem InvH.turn (hI : InvH a n R S) (i : Nat) : InvH a n R (S.turn i) where
  en := hI.en
  eR := hI.eR
  hau r hr c hc := by
    show (if c = i then -(S.h r c) else S.h r c) = smI (fun k => a r k * (if c = i then -(S.u k c) else S.u k c)) n
    by_cases e : c = i
    · rw [if_pos e, hI.hau r hr c hc, show -(smI (fun k => a r k * S.u k c) n) = (-1) * smI (fun k => a r k * S.u k c) n by omega, ← smI_mul]
      exact smI_congr fun k _ => by rw [if_pos e, Int.mul_neg]; omega
    · rw [if_neg e, hI.hau r hr c hc]
      exact smI_congr fun k _ => by rw [if_neg e]
  uv p q hp hq := by
    rw [← hI.uv p q hp hq]
    refine smI_congr fun k _ => ?_
    show (if k = i then -(S.u p k) else S.u p k) * (if k = i then -(S.v k q) else S.v k q) = _
    by_cases e : k = i
    · rw [if_pos e, if_pos e, Int.neg_mul_neg]
    · rw [if_neg e, if_neg e]
  vu p q hp hq := by
    have h := hI.vu p q hp hq
    have e : ∀ k, (S.turn i).v p k * (S.turn i).u k q = (if p = i then -1 else 1) * ((if q = i then -1 else 1) * (S.v p k * S.u k q)) := fun k => by
      show (if p = i then -(S.v p k) else S.v p k) * (if q = i then -(S.u k q) else S.u k q) = _
      by_cases e1 : p = i <;> by_cases e2 : q = i <;> simp only [e1, e2, if_true, if_false] <;> grind
    rw [smI_congr fun k _ => e k, smI_mul, smI_mul, h]
    by_cases e1 : p = q
    · subst e1; rw [if_pos rfl]; split <;> rfl
    · rw [if_neg e1, Int.mul_zero, Int.mul_zero]
end
/-! ### The least of a row's numbers -/
def lstH (f : Nat → Int) (k : Nat) : Nat → Option Nat × Nat
  | 0 => (none, 0)
  | m + 1 => if f (k + m) = 0 then lstH f k m else (match (lstH f k m).1 with | none => some (k + m) | some p => if (f (k + m)).natAbs < (f p).natAbs then some (k + m) else some p, (lstH f k m).2 + 1)
theorem lstH_spec (f : Nat → Int) (k : Nat) : ∀ m,
    match (lstH f k m).1 with
    | none => (lstH f k m).2 = 0 ∧ ∀ j, k ≤ j → j < k + m → f j = 0
    | some p => 1 ≤ (lstH f k m).2 ∧ k ≤ p ∧ p < k + m ∧ f p ≠ 0 ∧ (∀ j, k ≤ j → j < k + m → f j ≠ 0 → (f p).natAbs ≤ (f j).natAbs) ∧ ((lstH f k m).2 = 1 ↔ ∀ j, k ≤ j → j < k + m → j ≠ p → f j = 0)
  | 0 => ⟨rfl, fun j h1 h2 => by omega⟩
  | m + 1 => by
    have ih := lstH_spec f k m
    rw [lstH]
    by_cases h0 : f (k + m) = 0
    · rw [if_pos h0]
      revert ih
      cases hl : (lstH f k m).1 with
      | none =>
        rintro ⟨h1, h2⟩
        refine ⟨h1, fun j a b => ?_⟩
        by_cases e : j = k + m
        · rw [e]; exact h0
        · exact h2 j a (by omega)
      | some p =>
        rintro ⟨h1, h2, h3, h4, h5, h6⟩
        refine ⟨h1, h2, by omega, h4, fun j a b c => ?_, h6.trans ⟨fun h j a b c => ?_, fun h j a b c => h j a (by omega) c⟩⟩
        · by_cases e : j = k + m
          · rw [e] at c; exact absurd h0 c
          · exact h5 j a (by omega) c
        · by_cases e : j = k + m
          · rw [e]; exact h0
          · exact h j a (by omega) c
    · rw [if_neg h0]
      revert ih
      cases hl : (lstH f k m).1 with
      | none =>
        rintro ⟨h1, h2⟩
        refine ⟨by show 1 ≤ (lstH f k m).2 + 1; omega, by omega, by omega, h0, fun j a b c => ?_, ⟨fun _ j a b c => h2 j a (by omega), fun _ => by show (lstH f k m).2 + 1 = 1; omega⟩⟩
        by_cases e : j = k + m
        · rw [e]; exact Nat.le_refl _
        · exact absurd (h2 j a (by omega)) c
      | some p =>
        rintro ⟨h1, h2, h3, h4, h5, h6⟩
        by_cases hlt : (f (k + m)).natAbs < (f p).natAbs
        · show match (if (f (k + m)).natAbs < (f p).natAbs then some (k + m) else some p) with | none => _ | some p => _
          rw [if_pos hlt]
          refine ⟨by show 1 ≤ (lstH f k m).2 + 1; omega, by omega, by omega, h0, fun j a b c => ?_, ⟨fun h => ?_, fun h => absurd (h p h2 (by omega) (by omega)) h4⟩⟩
          · by_cases e : j = k + m
            · rw [e]; exact Nat.le_refl _
            · have := h5 j a (by omega) c; omega
          · exfalso; change (lstH f k m).2 + 1 = 1 at h; omega
        · show match (if (f (k + m)).natAbs < (f p).natAbs then some (k + m) else some p) with | none => _ | some p => _
          rw [if_neg hlt]
          refine ⟨by show 1 ≤ (lstH f k m).2 + 1; omega, h2, by omega, h4, fun j a b c => ?_, ⟨fun h => ?_, fun h => absurd (h (k + m) (by omega) (by omega) (by omega)) h0⟩⟩
          · by_cases e : j = k + m
            · rw [e]; omega
            · exact h5 j a (by omega) c
          · exfalso; change (lstH f k m).2 + 1 = 1 at h; omega
end Go.Abs
namespace Go.Abs
/-! ### One round of Euclid's way over columns -/
def redH (S : HX) (r k : Nat) : Nat → HX
  | 0 => S
  | m + 1 => (redH S r k m).less k (k + 1 + m) (Int.fdiv ((redH S r k m).h r (k + 1 + m)) ((redH S r k m).h r k))
section
variable {a : Nat → Nat → Int} {n R : Nat} {S : HX} {r k : Nat}
theorem redH_inv (hI : InvH a n R S) : ∀ m, k + 1 + m ≤ n → InvH a n R (redH S r k m)
  | 0, _ => hI
  | m + 1, h => (redH_inv hI m (by omega)).less (by omega) (by omega) (by omega) _
/-- Columns that are not behind k stay. -/
theorem redH_low : ∀ m c, c ≤ k ∨ k + 1 + m ≤ c → (∀ p, (redH S r k m).h p c = S.h p c) ∧ ∀ p, (redH S r k m).u p c = S.u p c
  | 0, _, _ => ⟨fun _ => rfl, fun _ => rfl⟩
  | m + 1, c, h => by
    obtain ⟨h1, h2⟩ := redH_low m c (by omega)
    refine ⟨fun p => ?_, fun p => ?_⟩
    · show (if c = k + 1 + m then _ else (redH S r k m).h p c) = _
      rw [if_neg (by omega), h1]
    · show (if c = k + 1 + m then _ else (redH S r k m).u p c) = _
      rw [if_neg (by omega), h2]
theorem redH_vlow : ∀ m p, p ≠ k → ∀ c, (redH S r k m).v p c = S.v p c
  | 0, _, _, _ => rfl
  | m + 1, p, h, c => by
    show (if p = k then _ else (redH S r k m).v p c) = _
    rw [if_neg h, redH_vlow m p h c]
theorem redH_at : ∀ m c, k < c → c < k + 1 + m → (∀ p, (redH S r k m).h p c = S.h p c - Int.fdiv (S.h r c) (S.h r k) * S.h p k) ∧ ∀ p, (redH S r k m).u p c = S.u p c - Int.fdiv (S.h r c) (S.h r k) * S.u p k
  | 0, c, h1, h2 => by omega
  | m + 1, c, h1, h2 => by
    obtain ⟨k1, k2⟩ := redH_low (S := S) (r := r) (k := k) m k (.inl (Nat.le_refl _))
    by_cases e : c = k + 1 + m
    · subst e
      obtain ⟨l1, l2⟩ := redH_low (S := S) (r := r) (k := k) m (k + 1 + m) (.inr (Nat.le_refl _))
      refine ⟨fun p => ?_, fun p => ?_⟩
      · show (if k + 1 + m = k + 1 + m then (redH S r k m).h p (k + 1 + m) - _ * (redH S r k m).h p k else _) = _
        rw [if_pos rfl, l1, l1, k1, k1]
      · show (if k + 1 + m = k + 1 + m then (redH S r k m).u p (k + 1 + m) - _ * (redH S r k m).u p k else _) = _
        rw [if_pos rfl, l2, l1, k1, k2]
    · obtain ⟨i1, i2⟩ := redH_at m c h1 (by omega)
      refine ⟨fun p => ?_, fun p => ?_⟩
      · show (if c = k + 1 + m then _ else (redH S r k m).h p c) = _
        rw [if_neg e, i1]
      · show (if c = k + 1 + m then _ else (redH S r k m).u p c) = _
        rw [if_neg e, i2]
/-- All numbers are at most E. -/
structure BdH (n R E : Nat) (S : HX) : Prop where
  h : ∀ r c, r < R → c < n → (S.h r c).natAbs ≤ E
  u : ∀ r c, r < n → c < n → (S.u r c).natAbs ≤ E
  v : ∀ r c, r < n → c < n → (S.v r c).natAbs ≤ E
theorem BdH.mono {E E' : Nat} (h : BdH n R E S) (he : E ≤ E') : BdH n R E' S := ⟨fun r c a b => Nat.le_trans (h.h r c a b) he, fun r c a b => Nat.le_trans (h.u r c a b) he, fun r c a b => Nat.le_trans (h.v r c a b) he⟩
theorem sub_mul_le {x y q : Int} {E Q : Nat} (hx : x.natAbs ≤ E) (hy : y.natAbs ≤ E) (hq : q.natAbs ≤ Q) : (x - q * y).natAbs ≤ E * (1 + Q) ∧ (x + q * y).natAbs ≤ E * (1 + Q) := by
  have h1 : (q * y).natAbs ≤ Q * E := by rw [Int.natAbs_mul]; exact Nat.mul_le_mul hq hy
  have h2 : E * (1 + Q) = E + Q * E := by rw [Nat.mul_add, Nat.mul_one, Nat.mul_comm E Q]
  omega
theorem redH_bd {E Q : Nat} (hB : BdH n R E S) (hk : k < n) (hQ : ∀ c, k < c → c < n → (Int.fdiv (S.h r c) (S.h r k)).natAbs ≤ Q) : ∀ m, k + 1 + m ≤ n → BdH n R (E * (1 + n * Q)) (redH S r k m) := by
  intro m hm
  have hle : E * (1 + Q) ≤ E * (1 + n * Q) := Nat.mul_le_mul_left _ (Nat.add_le_add_left (Nat.le_mul_of_pos_left _ (by omega)) _)
  have hle1 : E ≤ E * (1 + n * Q) := Nat.le_mul_of_pos_right _ (by omega)
  refine ⟨fun p c hp hc => ?_, fun p c hp hc => ?_, fun p c hp hc => ?_⟩
  · rcases Nat.lt_or_ge k c with h | h
    · rcases Nat.lt_or_ge c (k + 1 + m) with h2 | h2
      · rw [(redH_at m c h h2).1]
        exact Nat.le_trans (sub_mul_le (hB.h p c hp hc) (hB.h p k hp hk) (hQ c h hc)).1 hle
      · rw [(redH_low m c (.inr h2)).1]; exact Nat.le_trans (hB.h p c hp hc) hle1
    · rw [(redH_low m c (.inl h)).1]; exact Nat.le_trans (hB.h p c hp hc) hle1
  · rcases Nat.lt_or_ge k c with h | h
    · rcases Nat.lt_or_ge c (k + 1 + m) with h2 | h2
      · rw [(redH_at m c h h2).2]
        exact Nat.le_trans (sub_mul_le (hB.u p c hp hc) (hB.u p k hp hk) (hQ c h hc)).1 hle
      · rw [(redH_low m c (.inr h2)).2]; exact Nat.le_trans (hB.u p c hp hc) hle1
    · rw [(redH_low m c (.inl h)).2]; exact Nat.le_trans (hB.u p c hp hc) hle1
  · by_cases e : p = k
    · subst e
      have key : ∀ j, j ≤ m → ((redH S r p j).v p c).natAbs ≤ E * (1 + j * Q) := by
        intro j
        induction j with
        | zero => intro _; show (S.v p c).natAbs ≤ _; have := hB.v p c hp hc; rw [Nat.zero_mul, Nat.add_zero, Nat.mul_one]; exact this
        | succ j ih =>
          intro hj
          have h1 := ih (by omega)
          have h2 := hB.v (p + 1 + j) c (by omega) hc
          have h3 := hQ (p + 1 + j) (by omega) (by omega)
          have l1 := (redH_low (S := S) (r := r) (k := p) j (p + 1 + j) (.inr (Nat.le_refl _))).1 r
          have l2 := (redH_low (S := S) (r := r) (k := p) j p (.inl (Nat.le_refl _))).1 r
          have l3 := redH_vlow (S := S) (r := r) (k := p) j (p + 1 + j) (by omega) c
          show (if p = p then (redH S r p j).v p c + Int.fdiv ((redH S r p j).h r (p + 1 + j)) ((redH S r p j).h r p) * (redH S r p j).v (p + 1 + j) c else _).natAbs ≤ _
          rw [if_pos rfl, l1, l2, l3]
          have h4 : (Int.fdiv (S.h r (p + 1 + j)) (S.h r p) * S.v (p + 1 + j) c).natAbs ≤ Q * E := by rw [Int.natAbs_mul]; exact Nat.mul_le_mul h3 h2
          have h5 : E * (1 + (j + 1) * Q) = E * (1 + j * Q) + Q * E := by rw [Nat.succ_mul, ← Nat.add_assoc, Nat.mul_add E (1 + j * Q), Nat.mul_comm E Q]
          omega
      exact Nat.le_trans (key m (Nat.le_refl _)) (Nat.mul_le_mul_left _ (Nat.add_le_add_left (Nat.mul_le_mul_right _ (by omega)) _))
    · rw [redH_vlow m p e]; exact Nat.le_trans (hB.v p c hp hc) hle1
end
end Go.Abs
namespace Go.Abs
theorem fmod_pos {x y : Int} (hy : 0 < y) : 0 ≤ x - Int.fdiv x y * y ∧ x - Int.fdiv x y * y < y := by
  have h1 := Int.fmod_nonneg_of_pos x hy
  have h2 := Int.fmod_lt_of_pos x hy
  rw [Int.fmod_def, Int.mul_comm] at h1 h2
  exact ⟨h1, h2⟩
theorem fmod_neg {x y : Int} (hy : y < 0) : x - Int.fdiv x y * y ≤ 0 ∧ y < x - Int.fdiv x y * y := by
  have h := fmod_pos (x := -x) (y := -y) (by omega)
  rw [Int.neg_fdiv_neg, Int.mul_neg] at h
  omega
theorem fmod_abs {x y : Int} (hy : y ≠ 0) : (x - Int.fdiv x y * y).natAbs < y.natAbs := by
  rcases Int.lt_or_gt_of_ne hy with h | h
  · have := fmod_neg (x := x) h; omega
  · have := fmod_pos (x := x) h; omega
/-- With one sign it is the rest of what is without sign. -/
theorem fdiv_le {x y : Int} (hy : y ≠ 0) : (Int.fdiv x y).natAbs * y.natAbs ≤ x.natAbs + y.natAbs := by
  have h := fmod_abs (x := x) hy
  have h2 : (Int.fdiv x y * y).natAbs = (Int.fdiv x y).natAbs * y.natAbs := Int.natAbs_mul _ _
  omega
/-! ### Euclid's way along a row -/
def hdE (S : HX) (r k : Nat) : Option Nat × Nat := lstH (S.h r) k (S.n - k)
/-- The next head, where more than one number is left. -/
def stE (S : HX) (r k : Nat) : Option HX := match (hdE S r k).1 with
  | none => none
  | some p => if (hdE S r k).2 = 1 then none else some (redH (S.swap p k) r k (S.n - (k + 1)))
def itE (S : HX) (r k : Nat) : Nat → HX
  | 0 => S
  | t + 1 => match stE (itE S r k t) r k with | some S' => S' | none => itE S r k t
/-- What a head's numbers are: the least is m, the others are at most s. -/
structure Hd (S : HX) (n r k m s : Nat) : Prop where
  en : S.n = n
  least : ∃ p, (hdE S r k).1 = some p ∧ (S.h r p).natAbs = m
  most : ∀ c, k ≤ c → c < n → (S.h r c).natAbs ≤ s
theorem swap_self (S : HX) (k : Nat) : S.swap k k = S := by
  have e : ∀ c, swN k k c = c := fun c => by unfold swN; split <;> (try split) <;> omega
  unfold HX.swap
  simp only [e]
theorem BdH.swap {n R E : Nat} {S : HX} (h : BdH n R E S) {i j : Nat} (hi : i < n) (hj : j < n) : BdH n R E (S.swap i j) :=
  ⟨fun r c a b => h.h r _ a (swN_lt hi hj b), fun r c a b => h.u r _ a (swN_lt hi hj b), fun r c a b => h.v _ c (swN_lt hi hj a) b⟩
theorem stE_some {S S' : HX} {n R r k m s E : Nat} (hH : Hd S n r k m s) (hk : k < n) (hB : BdH n R E S) (hs : stE S r k = some S') :
    (∃ p, (hdE S r k).1 = some p ∧ k ≤ p ∧ p < n ∧ S'.h r k = S.h r p ∧ (p ≠ k → S'.h r p = S.h r k - Int.fdiv (S.h r k) (S.h r p) * S.h r p)) ∧ 1 ≤ m ∧ m ≤ s ∧ S'.n = n ∧ BdH n R (E * (1 + n * (s / m + 1))) S' ∧ ∃ y : Int, y.natAbs = m ∧ S'.h r k = y ∧ ∀ c, k < c → c < n → (S'.h r c).natAbs < m ∧ (0 < y → 0 ≤ S'.h r c) ∧ (y < 0 → S'.h r c ≤ 0) := by
  obtain ⟨p, hp, hm⟩ := hH.least
  have hsp := lstH_spec (S.h r) k (S.n - k)
  change match (hdE S r k).1 with | none => _ | some p => _ at hsp
  rw [hp] at hsp
  obtain ⟨_, h2, h3, h4, _, _⟩ := hsp
  have en := hH.en
  have hpn : p < n := by omega
  unfold stE at hs
  rw [hp] at hs
  change (if (hdE S r k).2 = 1 then none else some (redH (S.swap p k) r k (S.n - (k + 1)))) = some S' at hs
  split at hs
  · cases hs
  · obtain rfl := Option.some.inj hs
    have hm1 : 1 ≤ m := by omega
    have hms : m ≤ s := by rw [← hm]; exact hH.most p h2 hpn
    have hy : (S.swap p k).h r k = S.h r p := by show S.h r (swN p k k) = _; congr 1; unfold swN; split <;> (try split) <;> omega
    have hsw : ∀ c, k < c → c < n → ((S.swap p k).h r c).natAbs ≤ s := fun c a b => by
      show (S.h r (swN p k c)).natAbs ≤ s
      refine hH.most _ ?_ (swN_lt hpn hk b)
      unfold swN; split <;> (try split) <;> omega
    have hn1 : k + 1 + (S.n - (k + 1)) = n := by omega
    have hred : ∀ c, k < c → c < n → (redH (S.swap p k) r k (S.n - (k + 1))).h r c = (S.swap p k).h r c - Int.fdiv ((S.swap p k).h r c) (S.h r p) * S.h r p := fun c a b => by
      rw [(redH_at (S.n - (k + 1)) c a (by omega)).1, hy]
    refine ⟨⟨p, hp, h2, hpn, by rw [(redH_low (S.n - (k + 1)) k (.inl (Nat.le_refl _))).1, hy], fun e => ?_⟩, hm1, hms, ?_, ?_, S.h r p, hm, ?_, fun c a b => ?_⟩
    · rw [hred p (by omega) hpn]
      have : (S.swap p k).h r p = S.h r k := by show S.h r (swN p k p) = _; unfold swN; rw [if_pos rfl]
      rw [this]
    · rw [← en]
      have : ∀ j, (redH (S.swap p k) r k j).n = S.n := fun j => by induction j with | zero => rfl | succ j ih => exact ih
      exact this _
    · refine redH_bd (hB.swap hpn hk) hk (fun c a b => ?_) _ (by omega)
      rw [hy]
      have := fdiv_le (x := (S.swap p k).h r c) h4
      have h6 := hsw c a b
      have h5 : (Int.fdiv ((S.swap p k).h r c) (S.h r p)).natAbs ≤ (s + m) / m := (Nat.le_div_iff_mul_le (by omega)).2 (by rw [hm] at this; omega)
      rwa [Nat.add_div_right _ (by omega)] at h5
    · rw [(redH_low (S.n - (k + 1)) k (.inl (Nat.le_refl _))).1, hy]
    · rw [hred c a b]
      refine ⟨?_, fun h => (fmod_pos h).1, fun h => (fmod_neg h).1⟩
      have := fmod_abs (x := (S.swap p k).h r c) h4
      omega
theorem itE_none {S : HX} {r k : Nat} (h : stE S r k = none) : ∀ t, itE S r k t = S
  | 0 => rfl
  | t + 1 => by rw [itE, itE_none h t, h]
theorem itE_some {S S' : HX} {r k : Nat} (h : stE S r k = some S') : ∀ t, itE S r k (t + 1) = itE S' r k t
  | 0 => by show (match stE S r k with | some S' => S' | none => S) = S'; rw [h]
  | t + 1 => by rw [itE, itE_some h t]; rfl
/-- A row that bears a number has a least one. -/
theorem hd_of {S : HX} {n r k c s : Nat} (en : S.n = n) (hc : k ≤ c) (hcn : c < n) (h0 : S.h r c ≠ 0) (hs : ∀ c, k ≤ c → c < n → (S.h r c).natAbs ≤ s) : ∃ m, Hd S n r k m s ∧ m ≤ (S.h r c).natAbs := by
  have hsp := lstH_spec (S.h r) k (S.n - k)
  change match (hdE S r k).1 with | none => _ | some p => _ at hsp
  cases hp : (hdE S r k).1 with
  | none => rw [hp] at hsp; exact absurd (hsp.2 c hc (by omega)) h0
  | some p => rw [hp] at hsp; exact ⟨_, ⟨en, ⟨p, hp, rfl⟩, hs⟩, hsp.2.2.2.2.1 c hc (by omega) h0⟩
/-- Where the way goes on there is another number. -/
theorem stE_two {S S' : HX} {n r k m s : Nat} (hH : Hd S n r k m s) (hs : stE S r k = some S') (hk : k < n) (hlt : ∀ c, k < c → c < n → (S.h r c).natAbs < (S.h r k).natAbs) : m < (S.h r k).natAbs := by
  obtain ⟨p, hp, hm⟩ := hH.least
  have hsp := lstH_spec (S.h r) k (S.n - k)
  change match (hdE S r k).1 with | none => _ | some p => _ at hsp
  rw [hp] at hsp
  obtain ⟨_, h2, h3, h4, h5, h6⟩ := hsp
  have en := hH.en
  unfold stE at hs
  rw [hp] at hs
  change (if (hdE S r k).2 = 1 then none else some (redH (S.swap p k) r k (S.n - (k + 1)))) = some S' at hs
  split at hs
  · cases hs
  · rename_i hne
    by_cases e : p = k
    · exfalso
      refine hne (h6.2 fun j a b c => Classical.byContradiction fun h0 => ?_)
      have h7 := h5 j a b h0
      have h8 := hlt j (by omega) (by omega)
      rw [e] at h7; omega
    · have := hlt p (by omega) (by omega)
      omega
end Go.Abs
namespace Go.Abs
theorem step_le {m s E E1 n : Nat} (hm : 1 ≤ m) (hms : m ≤ s) (he : E1 = E * (1 + n * (s / m + 1))) : m * E1 ≤ E * ((2 * n + 1) * s) ∧ E ≤ E1 := by
  have h1 : m * (s / m) ≤ s := Nat.mul_div_le s m
  have h2 : m * (1 + n * (s / m + 1)) = m + n * (m * (s / m) + m) := by
    rw [Nat.mul_add, Nat.mul_one, Nat.mul_left_comm, Nat.mul_add, Nat.mul_one]
  have h3 : n * (m * (s / m) + m) ≤ n * (2 * s) := Nat.mul_le_mul_left _ (by omega)
  have h4 : n * (2 * s) + s = (2 * n + 1) * s := by rw [Nat.add_mul, Nat.one_mul, Nat.mul_comm 2 n, Nat.mul_assoc]
  have h5 : m * (1 + n * (s / m + 1)) ≤ (2 * n + 1) * s := by omega
  subst he
  exact ⟨by rw [Nat.mul_left_comm]; exact Nat.mul_le_mul_left _ h5, Nat.le_mul_of_pos_right _ (by omega)⟩
theorem half_le {m m' b D : Nat} (h : 2 * m' ≤ m) (hD : D ≤ 2 ^ b) : D * m' ^ b ≤ m ^ b := by
  refine Nat.le_trans (Nat.mul_le_mul_right _ hD) ?_
  rw [← Nat.mul_pow]
  exact Nat.pow_le_pow_left h b
theorem it_bd {n R r k b D : Nat} (hk : k < n) (hDe : D = 2 * n + 1) (hD : D * D ≤ 2 ^ b) : ∀ (m : Nat) (S : HX) (s E : Nat), Hd S n r k m s → BdH n R E S → ∀ t, BdH n R (E * (D * s * m ^ b)) (itE S r k t) := by
  have hD1 : 1 ≤ D := by omega
  have hDD : D ≤ 2 ^ b := Nat.le_trans (Nat.le_mul_of_pos_left _ hD1) hD
  intro m
  induction m using Nat.strongRecOn with
  | _ m ih =>
    intro S s E hH hB t
    obtain ⟨p0, hp0, hpm⟩ := hH.least
    have hsp := lstH_spec (S.h r) k (S.n - k)
    change match (hdE S r k).1 with | none => _ | some p => _ at hsp
    rw [hp0] at hsp
    have hm1 : 1 ≤ m := by have := hsp.2.2.2.1; omega
    have hms : m ≤ s := by rw [← hpm]; exact hH.most p0 hsp.2.1 (by have := hH.en; omega)
    have hbig : ∀ E1, m * E1 ≤ E * (D * s) → E1 ≤ E * (D * s * m ^ b) := fun E1 h => by
      have h1 : E1 ≤ m * E1 := Nat.le_mul_of_pos_left _ hm1
      have h2 : E * (D * s) ≤ E * (D * s * m ^ b) := Nat.mul_le_mul_left _ (Nat.le_mul_of_pos_right _ (Nat.pow_pos hm1))
      omega
    have hE0 : E ≤ E * (D * s * m ^ b) := Nat.le_mul_of_pos_right _ (Nat.mul_pos (Nat.mul_pos hD1 (by omega)) (Nat.pow_pos hm1))
    cases hst : stE S r k with
    | none => rw [itE_none hst]; exact hB.mono hE0
    | some S' =>
      cases t with
      | zero => exact hB.mono hE0
      | succ t =>
        rw [itE_some hst]
        obtain ⟨_, _, _, en', hB1, y, hy, hyk, hoth⟩ := stE_some hH hk hB hst
        obtain ⟨E1, hE1⟩ : ∃ E1, E1 = E * (1 + n * (s / m + 1)) := ⟨_, rfl⟩
        rw [← hE1] at hB1
        obtain ⟨hs1, _⟩ := step_le hm1 hms hE1
        rw [← hDe] at hs1
        have hy0 : S'.h r k ≠ 0 := by rw [hyk]; omega
        have hmost : ∀ c, k ≤ c → c < n → (S'.h r c).natAbs ≤ m := fun c a b => by
          by_cases e : c = k
          · rw [e, hyk]; omega
          · have := (hoth c (by omega) b).1; omega
        obtain ⟨m', hH', hm'⟩ := hd_of en' (Nat.le_refl k) hk hy0 hmost
        cases hst' : stE S' r k with
        | none => rw [itE_none hst']; exact hB1.mono (hbig E1 hs1)
        | some S'' =>
          have hlt := stE_two hH' hst' hk fun c a b => by have := (hoth c a b).1; rw [hyk]; omega
          rw [hyk, hy] at hlt
          by_cases hhalf : 2 * m' ≤ m
          · refine (ih m' hlt S' m E1 hH' hB1 t).mono ?_
            have h1 : E1 * (D * m * m' ^ b) = m * E1 * (D * m' ^ b) := by rw [Nat.mul_comm D m, Nat.mul_assoc m D, ← Nat.mul_assoc E1 m, Nat.mul_comm E1 m]
            have h2 : E * (D * s * m ^ b) = E * (D * s) * m ^ b := (Nat.mul_assoc _ _ _).symm
            rw [h1, h2]
            exact Nat.mul_le_mul hs1 (half_le hhalf hDD)
          · obtain ⟨⟨p, hp, hkp, hpn, hkp2, hrest⟩, hm1', hmm', en'', hB2, y', hy', hyk', hoth'⟩ := stE_some hH' hk hB1 hst'
            obtain ⟨E2, hE2⟩ : ∃ E2, E2 = E1 * (1 + n * (m / m' + 1)) := ⟨_, rfl⟩
            rw [← hE2] at hB2
            obtain ⟨hs2, _⟩ := step_le hm1' hmm' hE2
            rw [← hDe] at hs2
            have hpk : p ≠ k := fun e => by rw [e, hyk', hyk] at hkp2; omega
            have hr := hrest hpk
            have hpy : S'.h r p = y' := by rw [← hkp2, hyk']
            rw [hpy, hyk] at hr
            obtain ⟨_, hsg1, hsg2⟩ := hoth p (by omega) hpn
            rw [hpy] at hsg1 hsg2
            have hne' : S''.h r p ≠ 0 ∧ (S''.h r p).natAbs * 2 ≤ m := by
              have key : S''.h r p = y - y' := by
                rw [hr]
                have hq : Int.fdiv y y' = 1 := by
                  rcases Int.lt_or_gt_of_ne (show y' ≠ 0 by omega) with h | h
                  · have h1 := fmod_neg (x := y) h
                    have hyn : y < 0 := by
                      rcases Int.lt_or_gt_of_ne (show y ≠ 0 by omega) with h2 | h2
                      · exact h2
                      · have := hsg1 h2; omega
                    rcases Int.lt_trichotomy (Int.fdiv y y') 1 with h2 | h2 | h2
                    · have : Int.fdiv y y' * y' ≥ 0 := Int.mul_nonneg_of_nonpos_of_nonpos (by omega) (by omega); omega
                    · exact h2
                    · have : Int.fdiv y y' * y' ≤ 2 * y' := Int.mul_le_mul_of_nonpos_right (by omega) (by omega); omega
                  · have h1 := fmod_pos (x := y) h
                    have hyn : 0 < y := by
                      rcases Int.lt_or_gt_of_ne (show y ≠ 0 by omega) with h2 | h2
                      · have := hsg2 h2; omega
                      · exact h2
                    rcases Int.lt_trichotomy (Int.fdiv y y') 1 with h2 | h2 | h2
                    · have : Int.fdiv y y' * y' ≤ 0 := Int.mul_nonpos_of_nonpos_of_nonneg (by omega) (by omega); omega
                    · exact h2
                    · have : 2 * y' ≤ Int.fdiv y y' * y' := Int.mul_le_mul_of_nonneg_right (by omega) (by omega); omega
                rw [hq, Int.one_mul]
              rw [key]
              rcases Int.lt_or_gt_of_ne (show y ≠ 0 by omega) with h2 | h2
              · have := hsg2 h2; omega
              · have := hsg1 h2; omega
            cases t with
            | zero => exact hB1.mono (hbig E1 hs1)
            | succ t =>
              rw [itE_some hst']
              have hmost' : ∀ c, k ≤ c → c < n → (S''.h r c).natAbs ≤ m' := fun c a b => by
                by_cases e : c = k
                · rw [e, hyk']; omega
                · have := (hoth' c (by omega) b).1; omega
              obtain ⟨m2, hH2, hm2⟩ := hd_of en'' hkp hpn hne'.1 hmost'
              refine (ih m2 (by omega) S'' m' E2 hH2 hB2 t).mono ?_
              have h1 : E2 * (D * m' * m2 ^ b) = m' * E2 * (D * m2 ^ b) := by rw [Nat.mul_comm D m', Nat.mul_assoc m' D, ← Nat.mul_assoc E2 m', Nat.mul_comm E2 m']
              have h2 : E * (D * s * m ^ b) = E * (D * s) * m ^ b := (Nat.mul_assoc _ _ _).symm
              have h3 : E1 * (D * m) * (D * m2 ^ b) = m * E1 * (D * D * m2 ^ b) := by
                rw [Nat.mul_comm m E1, Nat.mul_comm D m, ← Nat.mul_assoc E1 m, Nat.mul_assoc (E1 * m) D, ← Nat.mul_assoc D D]
              rw [h1, h2]
              refine Nat.le_trans (Nat.mul_le_mul_right _ hs2) ?_
              rw [h3]
              exact Nat.mul_le_mul hs1 (half_le (by omega) hD)
/-- Euclid's way along a row ends. -/
theorem it_stop {n R r k : Nat} (hk : k < n) : ∀ (m : Nat) (S : HX) (s E : Nat), Hd S n r k m s → BdH n R E S → ∃ T, T ≤ m ∧ (∀ t, t < T → stE (itE S r k t) r k ≠ none) ∧ stE (itE S r k T) r k = none := by
  intro m
  induction m using Nat.strongRecOn with
  | _ m ih =>
    intro S s E hH hB
    cases hst : stE S r k with
    | none => exact ⟨0, Nat.zero_le _, fun t ht => by omega, hst⟩
    | some S' =>
      obtain ⟨_, hm1, _, en', hB1, y, hy, hyk, hoth⟩ := stE_some hH hk hB hst
      have hmost : ∀ c, k ≤ c → c < n → (S'.h r c).natAbs ≤ m := fun c a b => by
        by_cases e : c = k
        · rw [e, hyk]; omega
        · have := (hoth c (by omega) b).1; omega
      obtain ⟨m', hH', hm'⟩ := hd_of en' (Nat.le_refl k) hk (by rw [hyk]; omega) hmost
      have shift : ∀ {T}, T + 1 ≤ m → (∀ t, t < T → stE (itE S' r k t) r k ≠ none) → stE (itE S' r k T) r k = none → ∃ T, T ≤ m ∧ (∀ t, t < T → stE (itE S r k t) r k ≠ none) ∧ stE (itE S r k T) r k = none := fun {T} h0 h1 h2 =>
        ⟨T + 1, h0, fun t ht => by
          cases t with
          | zero => show stE S r k ≠ none; rw [hst]; simp
          | succ t => rw [itE_some hst]; exact h1 t (by omega), by rw [itE_some hst]; exact h2⟩
      cases hst' : stE S' r k with
      | none => exact shift (T := 0) hm1 (fun t ht => by omega) hst'
      | some S'' =>
        have hlt := stE_two hH' hst' hk fun c a b => by have := (hoth c a b).1; rw [hyk]; omega
        rw [hyk, hy] at hlt
        obtain ⟨T, h0, h1, h2⟩ := ih m' hlt S' m _ hH' hB1
        exact shift (by omega) h1 h2
end Go.Abs
namespace Go.Abs
/-! ### A row of Hermite's form, to its end -/
/-- The columns ahead of the pivot. -/
def lefH (S : HX) (r k : Nat) : Nat → HX
  | 0 => S
  | i + 1 => (lefH S r k i).less k i (Int.fdiv ((lefH S r k i).h r i) ((lefH S r k i).h r k))
def sgnH (S : HX) (r k : Nat) : HX := if S.h r k < 0 then S.turn k else S
/-- The pivot at its place. -/
def pivH (S : HX) (r k p : Nat) : HX := sgnH (S.swap p k) r k
def endE (S : HX) (r k : Nat) : HX × Bool := match (hdE S r k).1 with
  | none => (S, false)
  | some p => (lefH (pivH S r k p) r k k, true)
/-- So often Euclid's loop runs (f times at most). -/
def fuS (S : HX) (r k : Nat) : Nat → Nat
  | 0 => 0
  | f + 1 => match stE S r k with | none => 0 | some S' => fuS S' r k f + 1
def fuE (S : HX) (r k : Nat) : Nat := fuS S r k (match (hdE S r k).1 with
  | none => 0
  | some p => (S.h r p).natAbs)
theorem fuS_eq {r k : Nat} : ∀ (f : Nat) (S : HX) (T : Nat), T ≤ f → (∀ t, t < T → stE (itE S r k t) r k ≠ none) → stE (itE S r k T) r k = none → fuS S r k f = T
  | 0, S, T, h, _, _ => by have : T = 0 := by omega
                           rw [this]; rfl
  | f + 1, S, T, h, hgo, hst => by
    unfold fuS
    cases hs : stE S r k with
    | none =>
      cases T with
      | zero => rfl
      | succ T => exact (hgo 0 (by omega) hs).elim
    | some S' =>
      cases T with
      | zero => rw [show itE S r k 0 = S from rfl, hs] at hst; cases hst
      | succ T =>
        show fuS S' r k f + 1 = T + 1
        rw [fuS_eq f S' T (by omega) (fun t ht => by have := hgo (t + 1) (by omega); rwa [itE_some hs] at this) (by rwa [itE_some hs] at hst)]
def rowH (S : HX) (r k : Nat) : HX × Bool := endE (itE S r k (fuE S r k)) r k
theorem redH_dim {S : HX} {r k : Nat} : ∀ m, (redH S r k m).n = S.n ∧ (redH S r k m).R = S.R
  | 0 => ⟨rfl, rfl⟩
  | m + 1 => redH_dim (S := S) (r := r) (k := k) m
theorem lefH_dim {S : HX} {r k : Nat} : ∀ m, (lefH S r k m).n = S.n ∧ (lefH S r k m).R = S.R
  | 0 => ⟨rfl, rfl⟩
  | m + 1 => lefH_dim (S := S) (r := r) (k := k) m
theorem sgnH_dim {S : HX} {r k : Nat} : (sgnH S r k).n = S.n ∧ (sgnH S r k).R = S.R := by unfold sgnH; split <;> exact ⟨rfl, rfl⟩
theorem stE_dim {S S' : HX} {r k : Nat} (h : stE S r k = some S') : S'.n = S.n ∧ S'.R = S.R := by
  unfold stE at h
  split at h
  · cases h
  · split at h
    · cases h
    · cases h; exact redH_dim (S := S.swap _ k) _
theorem itE_dim {S : HX} {r k : Nat} : ∀ t, (itE S r k t).n = S.n ∧ (itE S r k t).R = S.R
  | 0 => ⟨rfl, rfl⟩
  | t + 1 => by
    have ih := itE_dim (S := S) (r := r) (k := k) t
    rw [itE]
    split
    · rename_i S' h
      have := stE_dim h
      exact ⟨this.1.trans ih.1, this.2.trans ih.2⟩
    · exact ih
theorem endE_dim {S : HX} {r k : Nat} : (endE S r k).1.n = S.n ∧ (endE S r k).1.R = S.R := by
  unfold endE
  split
  · exact ⟨rfl, rfl⟩
  · have h1 := lefH_dim (S := pivH S r k ‹_›) (r := r) (k := k) k
    have h2 := sgnH_dim (S := S.swap ‹_› k) (r := r) (k := k)
    exact ⟨h1.1.trans h2.1, h1.2.trans h2.2⟩
theorem rowH_dim {S : HX} {r k : Nat} : (rowH S r k).1.n = S.n ∧ (rowH S r k).1.R = S.R := by
  have h1 := endE_dim (S := itE S r k (fuE S r k)) (r := r) (k := k)
  have h2 := itE_dim (S := S) (r := r) (k := k) (fuE S r k)
  exact ⟨h1.1.trans h2.1, h1.2.trans h2.2⟩
theorem lstH_congr {f g : Nat → Int} {k : Nat} : ∀ {m : Nat}, (∀ c, k ≤ c → c < k + m → f c = g c) → lstH f k m = lstH g k m
  | 0, _ => rfl
  | m + 1, h => by
    have ih := lstH_congr (f := f) (g := g) (k := k) (m := m) fun c a b => h c a (by omega)
    have hsp := lstH_spec g k m
    rw [lstH, lstH, ih, h (k + m) (by omega) (by omega)]
    split
    · rfl
    · congr 1
      revert hsp
      split
      · intro _; rfl
      · rintro ⟨_, h2, h3, _⟩
        rw [h _ h2 (by omega)]
end Go.Abs
namespace Go.Abs
/-! ### All rows of Hermite's form -/
def dltI (i j : Nat) : Int := if i = j then 1 else 0
def startH (a : Nat → Nat → Int) (n R : Nat) : HX := ⟨n, R, a, dltI, dltI⟩
def madeS (a : Nat → Nat → Int) (n R : Nat) : Nat → HX × Nat
  | 0 => (startH a n R, 0)
  | r + 1 => ((rowH (madeS a n R r).1 r (madeS a n R r).2).1, if (rowH (madeS a n R r).1 r (madeS a n R r).2).2 then (madeS a n R r).2 + 1 else (madeS a n R r).2)
def pvS (a : Nat → Nat → Int) (n R r : Nat) : Int := if (rowH (madeS a n R r).1 r (madeS a n R r).2).2 then ((madeS a n R r).2 : Int) else -1
theorem madeS_dim {a : Nat → Nat → Int} {n R : Nat} : ∀ r, (madeS a n R r).1.n = n ∧ (madeS a n R r).1.R = R
  | 0 => ⟨rfl, rfl⟩
  | r + 1 => by
    have ih := madeS_dim (a := a) (n := n) (R := R) r
    have := rowH_dim (S := (madeS a n R r).1) (r := r) (k := (madeS a n R r).2)
    exact ⟨this.1.trans ih.1, this.2.trans ih.2⟩
theorem endE_lt {S : HX} {r k : Nat} (h : (endE S r k).2 = true) : k < S.n := by
  unfold endE at h
  split at h
  · cases h
  · rename_i p hp
    have := lstH_spec (S.h r) k (S.n - k)
    change match (hdE S r k).1 with | none => _ | some p => _ at this
    rw [hp] at this
    have h2 : k ≤ p ∧ p < k + (S.n - k) := ⟨this.2.1, this.2.2.1⟩
    omega
theorem madeS_le {a : Nat → Nat → Int} {n R : Nat} : ∀ r, (madeS a n R r).2 ≤ n ∧ (madeS a n R r).2 ≤ r
  | 0 => ⟨Nat.zero_le _, Nat.le_refl _⟩
  | r + 1 => by
    have ih := madeS_le (a := a) (n := n) (R := R) r
    have hd := madeS_dim (a := a) (n := n) (R := R) r
    have e : (madeS a n R (r + 1)).2 = if (rowH (madeS a n R r).1 r (madeS a n R r).2).2 then (madeS a n R r).2 + 1 else (madeS a n R r).2 := rfl
    rw [e]
    by_cases h : (rowH (madeS a n R r).1 r (madeS a n R r).2).2 = true
    · have := endE_lt h
      have h2 := itE_dim (S := (madeS a n R r).1) (r := r) (k := (madeS a n R r).2) (fuE (madeS a n R r).1 r (madeS a n R r).2)
      rw [if_pos h]
      omega
    · rw [if_neg h]
      omega
end Go.Abs
