/- At every input the call answers true and leaves its arguments as they were; no conditions. -/
import Derived.Test.YtjmbhknhiakkpaaGreatMf
set_option linter.unusedSimpArgs false
set_option linter.unusedVariables false
namespace Go.Abs
/-! ### Sums of fractions; the simplex method by Bland's rule -/
def smQ (f : Nat → Rat) : Nat → Rat
  | 0 => 0
  | n + 1 => smQ f n + f n
theorem smQ_congr {f g : Nat → Rat} : ∀ {n : Nat}, (∀ i, i < n → f i = g i) → smQ f n = smQ g n
  | 0, _ => rfl
  | n + 1, h => by rw [smQ, smQ, smQ_congr fun i hi => h i (Nat.lt_succ_of_lt hi), h n (Nat.lt_succ_self n)]
theorem smQ_zero {f : Nat → Rat} : ∀ {n : Nat}, (∀ i, i < n → f i = 0) → smQ f n = 0
  | 0, _ => rfl
  | n + 1, h => by rw [smQ, smQ_zero fun i hi => h i (Nat.lt_succ_of_lt hi), h n (Nat.lt_succ_self n)]; grind
theorem smQ_add {f g : Nat → Rat} : ∀ {n : Nat}, smQ (fun i => f i + g i) n = smQ f n + smQ g n
  | 0 => by show (0 : Rat) = 0 + 0; grind
  | n + 1 => by rw [smQ, smQ, smQ, smQ_add]; grind
theorem smQ_mul {f : Nat → Rat} {c : Rat} : ∀ {n : Nat}, smQ (fun i => c * f i) n = c * smQ f n
  | 0 => by show (0 : Rat) = c * 0; grind
  | n + 1 => by rw [smQ, smQ, smQ_mul]; grind
theorem smQ_split {f : Nat → Rat} {c : Nat} : ∀ {n : Nat}, c < n → smQ f n = smQ (fun j => if j = c then 0 else f j) n + f c
  | 0, h => by omega
  | n + 1, h => by
    rw [smQ, smQ]
    by_cases e : c = n
    · subst e
      rw [if_pos rfl, smQ_congr (f := fun j => if j = c then 0 else f j) (g := f) fun i hi => if_neg (by omega)]; grind
    · rw [if_neg (fun h => e h.symm), smQ_split (f := f) (c := c) (by omega)]; grind
theorem smQ_single {f : Nat → Rat} {c n : Nat} (hc : c < n) (h : ∀ j, j < n → j ≠ c → f j = 0) : smQ f n = f c := by
  rw [smQ_split hc, smQ_zero fun i hi => ?_]
  · grind
  · by_cases e : i = c
    · rw [if_pos e]
    · rw [if_neg e]; exact h i hi e
theorem smQ_nonneg {f : Nat → Rat} : ∀ {n : Nat}, (∀ i, i < n → 0 ≤ f i) → 0 ≤ smQ f n
  | 0, _ => by show (0 : Rat) ≤ 0; grind
  | n + 1, h => by
    have h1 := smQ_nonneg fun i hi => h i (Nat.lt_succ_of_lt hi)
    have h2 := h n (Nat.lt_succ_self n)
    rw [smQ]; grind
theorem smQ_pos {f : Nat → Rat} {n c : Nat} (hc : c < n) (h : ∀ i, i < n → 0 ≤ f i) (hp : 0 < f c) : 0 < smQ f n := by
  rw [smQ_split hc]
  have := smQ_nonneg (f := fun j => if j = c then 0 else f j) (n := n) fun i hi => by
    show 0 ≤ if i = c then (0 : Rat) else f i
    split
    · grind
    · exact h i hi
  grind
theorem smQ_swap {f : Nat → Nat → Rat} {m : Nat} : ∀ {n : Nat}, smQ (fun i => smQ (fun j => f i j) m) n = smQ (fun j => smQ (fun i => f i j) n) m
  | 0 => (smQ_zero (f := fun j => smQ (fun i => f i j) 0) fun _ _ => rfl).symm
  | n + 1 => by
    rw [smQ, smQ_swap, ← smQ_add]
    exact smQ_congr fun j _ => rfl

/-! Least of some. -/
def argm (p : Nat → Bool) (k : Nat → Nat) : Nat → Option Nat
  | 0 => none
  | i + 1 => match argm p k i with
    | none => if p i then some i else none
    | some o => if p i && decide (k i < k o) then some i else some o
theorem argm_none {p : Nat → Bool} {k : Nat → Nat} : ∀ {n : Nat}, argm p k n = none → ∀ i, i < n → p i = false
  | 0, _, i, hi => by omega
  | n + 1, h, i, hi => by
    rw [argm] at h
    cases e : argm p k n with
    | none =>
      rw [e] at h
      have h : (if p n then some n else none) = none := h
      by_cases e2 : i = n
      · subst e2
        cases c : p i with
        | false => rfl
        | true => rw [c] at h; cases h
      · exact argm_none e i (by omega)
    | some o =>
      rw [e] at h
      have h : (if p n && decide (k n < k o) then some n else some o) = none := h
      split at h <;> cases h
theorem argm_some {p : Nat → Bool} {k : Nat → Nat} : ∀ {n r : Nat}, argm p k n = some r → r < n ∧ p r = true ∧ ∀ i, i < n → p i = true → k r ≤ k i
  | 0, _, h => by cases h
  | n + 1, r, h => by
    rw [argm] at h
    cases e : argm p k n with
    | none =>
      rw [e] at h
      have h : (if p n then some n else none) = some r := h
      split at h
      · rename_i hp
        cases h
        refine ⟨Nat.lt_succ_self _, hp, fun i hi hpi => ?_⟩
        by_cases e2 : i = n
        · subst e2; exact Nat.le_refl _
        · have := argm_none e i (by omega); rw [this] at hpi; cases hpi
      · cases h
    | some o =>
      rw [e] at h
      have h : (if p n && decide (k n < k o) then some n else some o) = some r := h
      obtain ⟨h1, h2, h3⟩ := argm_some e
      split at h
      · rename_i hp
        cases h
        rw [Bool.and_eq_true, decide_eq_true_eq] at hp
        refine ⟨Nat.lt_succ_self _, hp.1, fun i hi hpi => ?_⟩
        by_cases e2 : i = n
        · subst e2; exact Nat.le_refl _
        · have := h3 i (by omega) hpi; omega
      · rename_i hp
        cases h
        refine ⟨by omega, h2, fun i hi hpi => ?_⟩
        by_cases e2 : i = n
        · subst e2
          rw [hpi, Bool.true_and, decide_eq_true_eq] at hp; omega
        · exact h3 i (by omega) hpi

/-- A solver: R rows tell as many variables by those of n columns; below n a variable is free, the others are at most 'mo'. -/
structure SX where
  n : Nat
  R : Nat
  rw : Nat → Nat
  cl : Nat → Nat
  a : Nat → Nat → Rat
  va : Nat → Rat
  mo : Nat → Rat
namespace SX
def ov (S : SX) (v : Nat) : Rat := if v < S.n then -1 else S.va v - S.mo (v - S.n)
def bad (S : SX) (i : Nat) : Bool := decide (S.n ≤ S.rw i) && decide (0 < S.ov (S.rw i))
def may (S : SX) (r c : Nat) : Bool := decide (0 < S.a r c) || (decide (S.a r c < 0) && (decide (S.cl c < S.n) || decide (S.ov (S.cl c) < 0)))
def broken (S : SX) : Option Nat := argm S.bad S.rw S.R
def column (S : SX) (r : Nat) : Option Nat := argm (S.may r) S.cl S.n
/-- The row that is turned, the whole table. -/
def trow (S : SX) (r c : Nat) (j : Nat) : Rat := if j = c then (S.a r c)⁻¹ else -(S.a r j * (S.a r c)⁻¹)
def ta (S : SX) (r c : Nat) (i j : Nat) : Rat := if i = r then S.trow r c j else if j = c then S.a i c * S.trow r c c else S.a i j + S.a i c * S.trow r c j
def by' (S : SX) (r c : Nat) : Rat := -(S.ov (S.rw r)) * (S.a r c)⁻¹
def vrow (S : SX) (r c : Nat) : Nat → Nat → Rat
  | 0 => fun v => if v = S.cl c then S.va v + S.by' r c else S.va v
  | i + 1 => if i = r then S.vrow r c i else fun v => if v = S.rw i then S.vrow r c i v + S.a i c * S.by' r c else S.vrow r c i v
def tva (S : SX) (r c : Nat) : Nat → Rat := fun v => if v = S.rw r then S.mo (S.rw r - S.n) else S.vrow r c S.R v
def piv (S : SX) (r c : Nat) : SX where
  n := S.n
  R := S.R
  rw := fun i => if i = r then S.cl c else S.rw i
  cl := fun j => if j = c then S.rw r else S.cl j
  a := S.ta r c
  va := S.tva r c
  mo := S.mo
def step (S : SX) : Option SX := match S.broken with
  | none => none
  | some r => match S.column r with
    | none => none
    | some c => some (S.piv r c)
end SX
/-- Values that forms take. -/
def ConX (A : Nat → Nat → Rat) (n R : Nat) (x : Nat → Rat) : Prop := ∀ i, i < R → x (n + i) = smQ (fun j => A i j * x j) n
structure InvX (A : Nat → Nat → Rat) (n R : Nat) (S : SX) : Prop where
  en : S.n = n
  eR : S.R = R
  rlt : ∀ i, i < R → S.rw i < n + R
  clt : ∀ c, c < n → S.cl c < n + R
  rinj : ∀ i j, i < R → j < R → S.rw i = S.rw j → i = j
  cinj : ∀ i j, i < n → j < n → S.cl i = S.cl j → i = j
  dis : ∀ i c, i < R → c < n → S.rw i ≠ S.cl c
  sur : ∀ v, v < n + R → (∃ i, i < R ∧ S.rw i = v) ∨ (∃ c, c < n ∧ S.cl c = v)
  eqv : ∀ x, ConX A n R x ↔ ∀ i, i < R → x (S.rw i) = smQ (fun c => S.a i c * x (S.cl c)) n
  val : ConX A n R S.va
  nb : ∀ c, c < n → S.va (S.cl c) = if S.cl c < n then 0 else S.mo (S.cl c - n)
section
variable {A : Nat → Nat → Rat} {n R : Nat} {S : SX}
theorem vrow_at (h : InvX A n R S) {r c : Nat} (hr : r < R) (hc : c < n) : ∀ i, i ≤ R → (∀ v, (∀ k, k < i → S.rw k ≠ v) → v ≠ S.cl c → S.vrow r c i v = S.va v) ∧ (S.vrow r c i (S.cl c) = S.va (S.cl c) + S.by' r c) ∧
    (∀ k, k < R → k ≠ r → S.vrow r c i (S.rw k) = if k < i then S.va (S.rw k) + S.a k c * S.by' r c else S.va (S.rw k)) ∧ S.vrow r c i (S.rw r) = S.va (S.rw r) := by
  intro i
  induction i with
  | zero =>
    intro _
    refine ⟨fun v _ hv => ?_, ?_, fun k hk _ => ?_, ?_⟩
    · show (if v = S.cl c then _ else _) = _; rw [if_neg hv]
    · show (if S.cl c = S.cl c then _ else _) = _; rw [if_pos rfl]
    · show (if S.rw k = S.cl c then _ else _) = _; rw [if_neg (h.dis k c hk hc), if_neg (by omega)]
    · show (if S.rw r = S.cl c then _ else _) = _; rw [if_neg (h.dis r c hr hc)]
  | succ i ih =>
    intro hi
    obtain ⟨h1, h2, h3, h4⟩ := ih (by omega)
    by_cases e : i = r
    · subst e
      have e0 : S.vrow i c (i + 1) = S.vrow i c i := by show (if i = i then _ else _) = _; rw [if_pos rfl]
      rw [e0]
      refine ⟨fun v hv hv2 => h1 v (fun k hk => hv k (by omega)) hv2, h2, fun k hk hkr => ?_, h4⟩
      rw [h3 k hk hkr]
      by_cases c1 : k < i
      · rw [if_pos c1, if_pos (by omega)]
      · rw [if_neg c1, if_neg (by omega)]
    · have e0 : S.vrow r c (i + 1) = fun v => if v = S.rw i then S.vrow r c i v + S.a i c * S.by' r c else S.vrow r c i v := by show (if i = r then _ else _) = _; rw [if_neg e]
      rw [e0]
      refine ⟨fun v hv hv2 => ?_, ?_, fun k hk hkr => ?_, ?_⟩
      · show (if v = S.rw i then _ else _) = _
        rw [if_neg (fun e => hv i (by omega) e.symm)]; exact h1 v (fun k hk => hv k (by omega)) hv2
      · show (if S.cl c = S.rw i then _ else _) = _
        rw [if_neg (fun e => h.dis i c (by omega) hc e.symm)]; exact h2
      · show (if S.rw k = S.rw i then _ else _) = _
        by_cases c1 : k = i
        · subst c1
          rw [if_pos rfl, h3 k hk hkr, if_neg (by omega), if_pos (by omega)]
        · rw [if_neg (fun e => c1 (h.rinj _ _ hk (by omega) e)), h3 k hk hkr]
          by_cases c2 : k < i
          · rw [if_pos c2, if_pos (by omega)]
          · rw [if_neg c2, if_neg (by omega)]
      · show (if S.rw r = S.rw i then _ else _) = _
        rw [if_neg (fun e2 => e (h.rinj _ _ hr (by omega) e2).symm)]; exact h4
theorem tva_cl (h : InvX A n R S) {r c : Nat} (hr : r < R) (hc : c < n) : S.tva r c (S.cl c) = S.va (S.cl c) + S.by' r c := by
  show (if S.cl c = S.rw r then _ else _) = _
  rw [if_neg (fun e => h.dis r c hr hc e.symm), h.eR]; exact (vrow_at h hr hc R (Nat.le_refl _)).2.1
theorem tva_cl' (h : InvX A n R S) {r c j : Nat} (hr : r < R) (hc : c < n) (hj : j < n) (hjc : j ≠ c) : S.tva r c (S.cl j) = S.va (S.cl j) := by
  show (if S.cl j = S.rw r then _ else _) = _
  rw [if_neg (fun e => h.dis r j hr hj e.symm), h.eR]
  exact (vrow_at h hr hc R (Nat.le_refl _)).1 _ (fun k hk => h.dis k j hk hj) (fun e => hjc (h.cinj _ _ hj hc e))
theorem tva_rw (h : InvX A n R S) {r c : Nat} : S.tva r c (S.rw r) = S.mo (S.rw r - S.n) := by
  show (if S.rw r = S.rw r then _ else _) = _
  rw [if_pos rfl]
theorem tva_rw' (h : InvX A n R S) {r c i : Nat} (hr : r < R) (hc : c < n) (hi : i < R) (hir : i ≠ r) : S.tva r c (S.rw i) = S.va (S.rw i) + S.a i c * S.by' r c := by
  show (if S.rw i = S.rw r then _ else _) = _
  rw [if_neg (fun e => hir (h.rinj _ _ hi hr e)), h.eR, (vrow_at h hr hc R (Nat.le_refl _)).2.2.1 i hi hir, if_pos hi]
theorem ov_ge (h : InvX A n R S) {v : Nat} (hv : n ≤ v) : S.ov v = S.va v - S.mo (v - n) := by
  unfold SX.ov; rw [h.en, if_neg (by omega)]
theorem InvX.piv (h : InvX A n R S) {r c : Nat} (hr : r < R) (hc : c < n) (ha : S.a r c ≠ 0) (hrn : n ≤ S.rw r) : InvX A n R (S.piv r c) := by
  have hinv : S.a r c * (S.a r c)⁻¹ = 1 := Rat.mul_inv_cancel _ ha
  generalize hb : (S.a r c)⁻¹ = b at hinv
  have hro : ∀ i, (S.piv r c).rw i = if i = r then S.cl c else S.rw i := fun _ => rfl
  have hco : ∀ j, (S.piv r c).cl j = if j = c then S.rw r else S.cl j := fun _ => rfl
  have htr : ∀ j, S.trow r c j = if j = c then b else -(S.a r j * b) := fun j => by unfold SX.trow; rw [hb]
  -- sums but one
  have hs : ∀ (x : Nat → Rat) i, i < R → smQ (fun j => S.a i j * x (S.cl j)) n = smQ (fun j => if j = c then 0 else S.a i j * x (S.cl j)) n + S.a i c * x (S.cl c) := fun x i _ => smQ_split hc
  have hs' : ∀ (x : Nat → Rat) i, smQ (fun j => (S.piv r c).a i j * x ((S.piv r c).cl j)) n = smQ (fun j => if j = c then 0 else (S.piv r c).a i j * x (S.cl j)) n + (S.piv r c).a i c * x (S.rw r) := fun x i => by
    rw [smQ_split hc, hco, if_pos rfl]
    congr 1
    exact smQ_congr fun j _ => by
      by_cases e : j = c
      · rw [if_pos e, if_pos e]
      · rw [if_neg e, if_neg e, hco, if_neg e]
  have hr0 : ∀ (x : Nat → Rat), smQ (fun j => if j = c then 0 else (S.piv r c).a r j * x (S.cl j)) n = -b * smQ (fun j => if j = c then 0 else S.a r j * x (S.cl j)) n := fun x => by
    rw [← smQ_mul]
    refine smQ_congr fun j _ => ?_
    by_cases e : j = c
    · rw [if_pos e, if_pos e]; grind
    · rw [if_neg e, if_neg e]
      show S.ta r c r j * _ = _
      unfold SX.ta
      rw [if_pos rfl, htr, if_neg e]; grind
  have hrc : (S.piv r c).a r c = b := by show S.ta r c r c = b; unfold SX.ta; rw [if_pos rfl, htr, if_pos rfl]
  have hi0 : ∀ (x : Nat → Rat) i, i ≠ r → smQ (fun j => if j = c then 0 else (S.piv r c).a i j * x (S.cl j)) n = smQ (fun j => if j = c then 0 else S.a i j * x (S.cl j)) n + -(S.a i c * b) * smQ (fun j => if j = c then 0 else S.a r j * x (S.cl j)) n := fun x i hi => by
    rw [← smQ_mul, ← smQ_add]
    refine smQ_congr fun j _ => ?_
    by_cases e : j = c
    · rw [if_pos e, if_pos e, if_pos e]; grind
    · rw [if_neg e, if_neg e, if_neg e]
      show S.ta r c i j * _ = _
      unfold SX.ta
      rw [if_neg hi, if_neg e, htr, if_neg e]; grind
  have hic : ∀ i, i ≠ r → (S.piv r c).a i c = S.a i c * b := fun i hi => by show S.ta r c i c = _; unfold SX.ta; rw [if_neg hi, if_pos rfl, htr, if_pos rfl]
  refine ⟨h.en, h.eR, fun i hi => ?_, fun j hj => ?_, fun i j hi hj e => ?_, fun i j hi hj e => ?_, fun i j hi hj e => ?_, fun v hv => ?_, fun x => ?_, ?_, fun j hj => ?_⟩
  · rw [hro]; split
    · exact h.clt c hc
    · exact h.rlt i hi
  · rw [hco]; split
    · exact h.rlt r hr
    · exact h.clt j hj
  · rw [hro, hro] at e
    split at e <;> split at e
    · omega
    · exact (h.dis j c hj hc e.symm).elim
    · exact (h.dis i c hi hc e).elim
    · exact h.rinj i j hi hj e
  · rw [hco, hco] at e
    split at e <;> split at e
    · omega
    · exact (h.dis r j hr hj e).elim
    · exact (h.dis r i hr hi e.symm).elim
    · exact h.cinj i j hi hj e
  · rw [hro, hco] at e
    split at e <;> split at e
    · exact h.dis r c hr hc e.symm
    · rename_i h1 h2; exact h2 (h.cinj _ _ hc hj e).symm
    · rename_i h1 h2; exact h1 (h.rinj _ _ hi hr e)
    · exact h.dis i j hi hj e
  · rcases h.sur v hv with ⟨i, hi, e⟩ | ⟨j, hj, e⟩
    · by_cases e2 : i = r
      · subst e2; exact .inr ⟨c, hc, by rw [hco, if_pos rfl]; exact e⟩
      · exact .inl ⟨i, hi, by rw [hro, if_neg e2]; exact e⟩
    · by_cases e2 : j = c
      · subst e2; exact .inl ⟨r, hr, by rw [hro, if_pos rfl]; exact e⟩
      · exact .inr ⟨j, hj, by rw [hco, if_neg e2]; exact e⟩
  · rw [h.eqv x]
    refine ⟨fun hx i hi => ?_, fun hx i hi => ?_⟩
    · have h1 := hx r hr
      rw [hs x r hr] at h1
      rw [hs' x i]
      by_cases e : i = r
      · subst e
        rw [hro, if_pos rfl, hr0, hrc]
        grind
      · have h2 := hx i hi
        rw [hs x i hi] at h2
        rw [hro, if_neg e, hi0 x i e, hic i e]
        grind
    · have h1 := hx r hr
      rw [hro, if_pos rfl, hs' x r, hr0, hrc] at h1
      rw [hs x i hi]
      by_cases e : i = r
      · subst e
        grind
      · have h2 := hx i hi
        rw [hro, if_neg e, hs' x i, hi0 x i e, hic i e] at h2
        grind
  · rw [h.eqv]
    intro i hi
    have hv := (h.eqv S.va).1 h.val
    show S.tva r c (S.rw i) = smQ (fun j => S.a i j * S.tva r c (S.cl j)) n
    rw [hs (S.tva r c) i hi, tva_cl h hr hc, smQ_congr (f := fun j => if j = c then 0 else S.a i j * S.tva r c (S.cl j)) (g := fun j => if j = c then 0 else S.a i j * S.va (S.cl j)) fun j hj => by
      by_cases e : j = c
      · rw [if_pos e, if_pos e]
      · rw [if_neg e, if_neg e, tva_cl' h hr hc hj e]]
    have h2 := hv i hi
    rw [hs S.va i hi] at h2
    by_cases e : i = r
    · subst e
      rw [tva_rw h, h.en]
      have h3 := ov_ge h hrn
      have h4 : S.by' i c = -(S.ov (S.rw i)) * b := by unfold SX.by'; rw [hb]
      grind
    · rw [tva_rw' h hr hc hi e]
      grind
  · show S.tva r c ((S.piv r c).cl j) = if (S.piv r c).cl j < n then 0 else S.mo ((S.piv r c).cl j - n)
    rw [hco]
    by_cases e : j = c
    · rw [if_pos e, tva_rw h, h.en, if_neg (by omega)]
    · rw [if_neg e, tva_cl' h hr hc hj e]; exact h.nb j hj
end
end Go.Abs
namespace Go.Abs
/-! ### Pigeons -/
theorem pigeon : ∀ (N : Nat) (f : Nat → Nat), (∀ i, i ≤ N → f i < N) → ∃ i j, i < j ∧ j ≤ N ∧ f i = f j
  | 0, f, h => by have := h 0 (Nat.le_refl _); omega
  | N + 1, f, h => by
    by_cases hc : ∃ i, i ≤ N ∧ f i = f (N + 1)
    · obtain ⟨i, hi, e⟩ := hc; exact ⟨i, N + 1, by omega, Nat.le_refl _, e⟩
    · have hne : ∀ i, i ≤ N → f i ≠ f (N + 1) := fun i hi e => hc ⟨i, hi, e⟩
      obtain ⟨i, j, h1, h2, h3⟩ := pigeon N (fun i => if f i = N then f (N + 1) else f i) fun i hi => by
        have h4 := h i (by omega)
        have h5 := h (N + 1) (Nat.le_refl _)
        have h6 := hne i hi
        split <;> omega
      refine ⟨i, j, h1, by omega, ?_⟩
      have h4 := hne i (by omega)
      have h5 := hne j h2
      have h3 : (if f i = N then f (N + 1) else f i) = (if f j = N then f (N + 1) else f j) := h3
      split at h3 <;> split at h3 <;> omega
/-- A number by its digits. -/
def encD (M : Nat) (s : Nat → Nat) : Nat → Nat
  | 0 => 0
  | j + 1 => encD M s j + s j * M ^ j
theorem encD_lt {M : Nat} {s : Nat → Nat} : ∀ {n : Nat}, (∀ j, j < n → s j < M) → encD M s n < M ^ n
  | 0, _ => Nat.one_pos
  | n + 1, h => by
    have h1 := encD_lt fun j hj => h j (Nat.lt_succ_of_lt hj)
    have h2 := h n (Nat.lt_succ_self n)
    have h3 : (s n + 1) * M ^ n ≤ M * M ^ n := Nat.mul_le_mul_right _ h2
    rw [encD, Nat.pow_succ, Nat.mul_comm (M ^ n)]
    rw [Nat.succ_mul] at h3; omega
theorem encD_inj {M : Nat} {s t : Nat → Nat} : ∀ {n : Nat}, (∀ j, j < n → s j < M) → (∀ j, j < n → t j < M) → encD M s n = encD M t n → ∀ j, j < n → s j = t j
  | 0, _, _, _, j, hj => by omega
  | n + 1, hs, ht, h, j, hj => by
    have h1 := encD_lt (n := n) fun j hj => hs j (Nat.lt_succ_of_lt hj)
    have h2 := encD_lt (n := n) fun j hj => ht j (Nat.lt_succ_of_lt hj)
    rw [encD, encD] at h
    have hp : 0 < M ^ n := by omega
    have e1 : (encD M s n + s n * M ^ n) / M ^ n = s n := by rw [Nat.add_mul_div_right _ _ hp, Nat.div_eq_of_lt h1, Nat.zero_add]
    have e2 : (encD M t n + t n * M ^ n) / M ^ n = t n := by rw [Nat.add_mul_div_right _ _ hp, Nat.div_eq_of_lt h2, Nat.zero_add]
    have e3 : s n = t n := by rw [← e1, ← e2, h]
    by_cases e : j = n
    · rw [e, e3]
    · rw [e3] at h
      exact encD_inj (n := n) (fun j hj => hs j (Nat.lt_succ_of_lt hj)) (fun j hj => ht j (Nat.lt_succ_of_lt hj)) (by omega) j (by omega)
theorem encD_dec {b k : Nat} : ∀ {m : Nat}, encD b (fun i => k / b ^ i % b) m = k % b ^ m
  | 0 => by rw [encD, Nat.pow_zero, Nat.mod_one]
  | m + 1 => by rw [encD, encD_dec, Nat.mod_pow_succ, Nat.mul_comm (b ^ m)]
/-! ### Small relations among integer rows -/
def smI (f : Nat → Int) : Nat → Int
  | 0 => 0
  | n + 1 => smI f n + f n
theorem smI_congr {f g : Nat → Int} : ∀ {n : Nat}, (∀ i, i < n → f i = g i) → smI f n = smI g n
  | 0, _ => rfl
  | n + 1, h => by rw [smI, smI, smI_congr fun i hi => h i (Nat.lt_succ_of_lt hi), h n (Nat.lt_succ_self n)]
theorem smI_sub {f g : Nat → Int} : ∀ {n : Nat}, smI (fun i => f i - g i) n = smI f n - smI g n
  | 0 => rfl
  | n + 1 => by rw [smI, smI, smI, smI_sub]; omega
theorem smI_abs {f : Nat → Int} {K : Nat} : ∀ {n : Nat}, (∀ i, i < n → (f i).natAbs ≤ K) → (smI f n).natAbs ≤ n * K
  | 0, _ => by show (0 : Int).natAbs ≤ _; simp
  | n + 1, h => by
    have h1 := smI_abs fun i hi => h i (Nat.lt_succ_of_lt hi)
    have h2 := h n (Nat.lt_succ_self n)
    rw [smI, Nat.succ_mul]; omega
theorem siegel (n B : Nat) (w : Nat → Nat → Int) (hB : ∀ i j, i < n + 1 → j < n → (w i j).natAbs ≤ B) :
    ∃ y : Nat → Int, (∃ i, i < n + 1 ∧ y i ≠ 0) ∧ (∀ i, i < n + 1 → (y i).natAbs ≤ (2 * ((n + 1) * B) + 1) ^ n) ∧ ∀ j, j < n → smI (fun i => y i * w i j) (n + 1) = 0 := by
  obtain ⟨Q, hQ⟩ : ∃ Q, Q = 2 * ((n + 1) * B) + 1 := ⟨_, rfl⟩
  obtain ⟨H, hH⟩ : ∃ H, H = Q ^ n := ⟨_, rfl⟩
  have hH1 : 1 ≤ H := by rw [hH]; exact Nat.pow_pos (by omega)
  obtain ⟨Z, hZ⟩ : ∃ Z, Z = (n + 1) * (H * B) := ⟨_, rfl⟩
  obtain ⟨M, hM⟩ : ∃ M, M = 2 * Z + 1 := ⟨_, rfl⟩
  obtain ⟨d, hd⟩ : ∃ d : Nat → Nat → Nat, d = fun k i => k / (H + 1) ^ i % (H + 1) := ⟨_, rfl⟩
  have hdl : ∀ k i, d k i ≤ H := fun k i => by
    have : k / (H + 1) ^ i % (H + 1) < H + 1 := Nat.mod_lt _ (by omega)
    rw [hd]; show k / (H + 1) ^ i % (H + 1) ≤ H; omega
  obtain ⟨s, hs⟩ : ∃ s : Nat → Nat → Int, s = fun k j => smI (fun i => (d k i : Int) * w i j) (n + 1) := ⟨_, rfl⟩
  have hsb : ∀ k j, j < n → (s k j).natAbs ≤ Z := fun k j hj => by
    have := smI_abs (f := fun i => (d k i : Int) * w i j) (K := H * B) (n := n + 1) fun i hi => by
      rw [Int.natAbs_mul, Int.natAbs_natCast]
      exact Nat.mul_le_mul (hdl k i) (hB i j hi hj)
    rw [hs, hZ]; exact this
  obtain ⟨u, hu⟩ : ∃ u : Nat → Nat → Nat, u = fun k j => (s k j + Z).toNat := ⟨_, rfl⟩
  have hul : ∀ k j, j < n → u k j < M := fun k j hj => by
    have := hsb k j hj
    rw [hu]; show (s k j + Z).toNat < M; omega
  have hMQ : M ≤ Q * H := by
    have e1 : Q * H = 2 * Z + H := by rw [hQ, hZ, Nat.succ_mul]; congr 1; rw [Nat.mul_assoc]; congr 1; rw [Nat.mul_assoc]; congr 1; exact Nat.mul_comm _ _
    omega
  have hbig : M ^ n < (H + 1) ^ (n + 1) := by
    have h1 : M ^ n ≤ (Q * H) ^ n := Nat.pow_le_pow_left hMQ n
    rw [Nat.mul_pow, ← hH] at h1
    have h2 : H * H ^ n = H ^ (n + 1) := by rw [Nat.pow_succ, Nat.mul_comm]
    have h3 : H ^ (n + 1) < (H + 1) ^ (n + 1) := Nat.pow_lt_pow_left (Nat.lt_succ_self H) (by omega)
    omega
  obtain ⟨k, l, h1, h2, h3⟩ := pigeon (M ^ n) (fun k => encD M (u k) n) fun k _ => encD_lt fun j hj => hul k j hj
  have hsame := encD_inj (fun j hj => hul k j hj) (fun j hj => hul l j hj) h3
  refine ⟨fun i => (d l i : Int) - d k i, ?_, fun i _ => ?_, fun j hj => ?_⟩
  · by_cases hc : ∃ i, i < n + 1 ∧ (d l i : Int) - d k i ≠ 0
    · exact hc
    · exfalso
      have he : ∀ i, i < n + 1 → d l i = d k i := fun i hi => by
        by_cases e : d l i = d k i
        · exact e
        · exact (hc ⟨i, hi, by omega⟩).elim
      have hk : ∀ k, k ≤ M ^ n → encD (H + 1) (d k) (n + 1) = k := fun k hk => by
        rw [hd]; show encD (H + 1) (fun i => k / (H + 1) ^ i % (H + 1)) (n + 1) = k
        rw [encD_dec, Nat.mod_eq_of_lt (by omega)]
      have hcg : ∀ m, m ≤ n + 1 → encD (H + 1) (d l) m = encD (H + 1) (d k) m := fun m => by
        induction m with
        | zero => intro _; rfl
        | succ m ih => intro hm; rw [encD, encD, ih (by omega), he m (by omega)]
      have := hcg (n + 1) (Nat.le_refl _)
      rw [hk l h2, hk k (by omega)] at this
      omega
  · have h4 := hdl l i
    have h5 := hdl k i
    rw [← hQ, ← hH]; show ((d l i : Int) - d k i).natAbs ≤ H; omega
  · have e1 : smI (fun i => ((d l i : Int) - d k i) * w i j) (n + 1) = s l j - s k j := by
      rw [hs]
      show _ = smI (fun i => (d l i : Int) * w i j) (n + 1) - smI (fun i => (d k i : Int) * w i j) (n + 1)
      rw [← smI_sub]
      exact smI_congr fun i _ => Int.sub_mul _ _ _
    rw [e1]
    have h4 := hsame j hj
    have h5 := hsb k j hj
    have h6 := hsb l j hj
    rw [hu] at h4
    have h4 : (s k j + Z).toNat = (s l j + Z).toNat := h4
    omega
end Go.Abs
