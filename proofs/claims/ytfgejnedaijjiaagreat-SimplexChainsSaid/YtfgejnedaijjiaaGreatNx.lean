/- At every input the call answers true and leaves its arguments as they were; no conditions. -/
import Derived.Test.YtfgejnedaijjiaaGreatMf
set_option linter.unusedSimpArgs false
set_option linter.unusedVariables false
namespace Go.Abs
/-! ### Sums of fractions; the simplex method by Bland's rule -/
def smQ (f : Nat → Rat) : Nat → Rat
  | 0 => 0
  | n + 1 => smQ f n + f n
theorem smQ_congr {f g : Nat → Rat} : ∀ {n : Nat}, (∀ i, i < n → f i = g i) → smQ f n = smQ g n
  | 0, _ => rfl
  | n + 1, h => by rw [smQ, smQ, smQ_congr fun i hi => h i (Nat.lt_succ_of_lt hi), h n (Nat.lt_succ_self n)]
theorem smQ_zero {f : Nat → Rat} : ∀ {n : Nat}, (∀ i, i < n → f i = 0) → smQ f n = 0
  | 0, _ => rfl
  | n + 1, h => by rw [smQ, smQ_zero fun i hi => h i (Nat.lt_succ_of_lt hi), h n (Nat.lt_succ_self n)]; grind
theorem smQ_add {f g : Nat → Rat} : ∀ {n : Nat}, smQ (fun i => f i + g i) n = smQ f n + smQ g n
  | 0 => by show (0 : Rat) = 0 + 0; grind
  | n + 1 => by rw [smQ, smQ, smQ, smQ_add]; grind
theorem smQ_mul {f : Nat → Rat} {c : Rat} : ∀ {n : Nat}, smQ (fun i => c * f i) n = c * smQ f n
  | 0 => by show (0 : Rat) = c * 0; grind
  | n + 1 => by rw [smQ, smQ, smQ_mul]; grind
theorem smQ_split {f : Nat → Rat} {c : Nat} : ∀ {n : Nat}, c < n → smQ f n = smQ (fun j => if j = c then 0 else f j) n + f c
  | 0, h => by omega
  | n + 1, h => by
    rw [smQ, smQ]
    by_cases e : c = n
    · subst e
      rw [if_pos rfl, smQ_congr (f := fun j => if j = c then 0 else f j) (g := f) fun i hi => if_neg (by omega)]; grind
    · rw [if_neg (fun h => e h.symm), smQ_split (f := f) (c := c) (by omega)]; grind
theorem smQ_single {f : Nat → Rat} {c n : Nat} (hc : c < n) (h : ∀ j, j < n → j ≠ c → f j = 0) : smQ f n = f c := by
  rw [smQ_split hc, smQ_zero fun i hi => ?_]
  · grind
  · by_cases e : i = c
    · rw [if_pos e]
    · rw [if_neg e]; exact h i hi e
theorem smQ_nonneg {f : Nat → Rat} : ∀ {n : Nat}, (∀ i, i < n → 0 ≤ f i) → 0 ≤ smQ f n
  | 0, _ => by show (0 : Rat) ≤ 0; grind
  | n + 1, h => by
    have h1 := smQ_nonneg fun i hi => h i (Nat.lt_succ_of_lt hi)
    have h2 := h n (Nat.lt_succ_self n)
    rw [smQ]; grind
theorem smQ_pos {f : Nat → Rat} {n c : Nat} (hc : c < n) (h : ∀ i, i < n → 0 ≤ f i) (hp : 0 < f c) : 0 < smQ f n := by
  rw [smQ_split hc]
  have := smQ_nonneg (f := fun j => if j = c then 0 else f j) (n := n) fun i hi => by
    show 0 ≤ if i = c then (0 : Rat) else f i
    split
    · grind
    · exact h i hi
  grind
theorem smQ_swap {f : Nat → Nat → Rat} {m : Nat} : ∀ {n : Nat}, smQ (fun i => smQ (fun j => f i j) m) n = smQ (fun j => smQ (fun i => f i j) n) m
  | 0 => (smQ_zero (f := fun j => smQ (fun i => f i j) 0) fun _ _ => rfl).symm
  | n + 1 => by
    rw [smQ, smQ_swap, ← smQ_add]
    exact smQ_congr fun j _ => rfl

/-! Least of some. -/
def argm (p : Nat → Bool) (k : Nat → Nat) : Nat → Option Nat
  | 0 => none
  | i + 1 => match argm p k i with
    | none => if p i then some i else none
    | some o => if p i && decide (k i < k o) then some i else some o
theorem argm_none {p : Nat → Bool} {k : Nat → Nat} : ∀ {n : Nat}, argm p k n = none → ∀ i, i < n → p i = false
  | 0, _, i, hi => by omega
  | n + 1, h, i, hi => by
    rw [argm] at h
    cases e : argm p k n with
    | none =>
      rw [e] at h
      have h : (if p n then some n else none) = none := h
      by_cases e2 : i = n
      · subst e2
        cases c : p i with
        | false => rfl
        | true => rw [c] at h; cases h
      · exact argm_none e i (by omega)
    | some o =>
      rw [e] at h
      have h : (if p n && decide (k n < k o) then some n else some o) = none := h
      split at h <;> cases h
theorem argm_some {p : Nat → Bool} {k : Nat → Nat} : ∀ {n r : Nat}, argm p k n = some r → r < n ∧ p r = true ∧ ∀ i, i < n → p i = true → k r ≤ k i
  | 0, _, h => by cases h
  | n + 1, r, h => by
    rw [argm] at h
    cases e : argm p k n with
    | none =>
      rw [e] at h
      have h : (if p n then some n else none) = some r := h
      split at h
      · rename_i hp
        cases h
        refine ⟨Nat.lt_succ_self _, hp, fun i hi hpi => ?_⟩
        by_cases e2 : i = n
        · subst e2; exact Nat.le_refl _
        · have := argm_none e i (by omega); rw [this] at hpi; cases hpi
      · cases h
    | some o =>
      rw [e] at h
      have h : (if p n && decide (k n < k o) then some n else some o) = some r := h
      obtain ⟨h1, h2, h3⟩ := argm_some e
      split at h
      · rename_i hp
        cases h
        rw [Bool.and_eq_true, decide_eq_true_eq] at hp
        refine ⟨Nat.lt_succ_self _, hp.1, fun i hi hpi => ?_⟩
        by_cases e2 : i = n
        · subst e2; exact Nat.le_refl _
        · have := h3 i (by omega) hpi; omega
      · rename_i hp
        cases h
        refine ⟨by omega, h2, fun i hi hpi => ?_⟩
        by_cases e2 : i = n
        · subst e2
          rw [hpi, Bool.true_and, decide_eq_true_eq] at hp; omega
        · exact h3 i (by omega) hpi

/-- A solver: R rows tell as many variables by those of n columns; below n a variable is free, the others are at most 'mo'. -/
structure SX where
  n : Nat
  R : Nat
  rw : Nat → Nat
  cl : Nat → Nat
  a : Nat → Nat → Rat
  va : Nat → Rat
  mo : Nat → Rat
namespace SX
def ov (S : SX) (v : Nat) : Rat := if v < S.n then -1 else S.va v - S.mo (v - S.n)
def bad (S : SX) (i : Nat) : Bool := decide (S.n ≤ S.rw i) && decide (0 < S.ov (S.rw i))
def may (S : SX) (r c : Nat) : Bool := decide (0 < S.a r c) || (decide (S.a r c < 0) && (decide (S.cl c < S.n) || decide (S.ov (S.cl c) < 0)))
def broken (S : SX) : Option Nat := argm S.bad S.rw S.R
def column (S : SX) (r : Nat) : Option Nat := argm (S.may r) S.cl S.n
/-- The row that is turned, the whole table. -/
def trow (S : SX) (r c : Nat) (j : Nat) : Rat := if j = c then (S.a r c)⁻¹ else -(S.a r j * (S.a r c)⁻¹)
def ta (S : SX) (r c : Nat) (i j : Nat) : Rat := if i = r then S.trow r c j else if j = c then S.a i c * S.trow r c c else S.a i j + S.a i c * S.trow r c j
def by' (S : SX) (r c : Nat) : Rat := -(S.ov (S.rw r)) * (S.a r c)⁻¹
def vrow (S : SX) (r c : Nat) : Nat → Nat → Rat
  | 0 => fun v => if v = S.cl c then S.va v + S.by' r c else S.va v
  | i + 1 => if i = r then S.vrow r c i else fun v => if v = S.rw i then S.vrow r c i v + S.a i c * S.by' r c else S.vrow r c i v
def tva (S : SX) (r c : Nat) : Nat → Rat := fun v => if v = S.rw r then S.mo (S.rw r - S.n) else S.vrow r c S.R v
def piv (S : SX) (r c : Nat) : SX where
  n := S.n
  R := S.R
  rw := fun i => if i = r then S.cl c else S.rw i
  cl := fun j => if j = c then S.rw r else S.cl j
  a := S.ta r c
  va := S.tva r c
  mo := S.mo
def step (S : SX) : Option SX := match S.broken with
  | none => none
  | some r => match S.column r with
    | none => none
    | some c => some (S.piv r c)
end SX
/-- Values that forms take. -/
def ConX (A : Nat → Nat → Rat) (n R : Nat) (x : Nat → Rat) : Prop := ∀ i, i < R → x (n + i) = smQ (fun j => A i j * x j) n
structure InvX (A : Nat → Nat → Rat) (n R : Nat) (S : SX) : Prop where
  en : S.n = n
  eR : S.R = R
  rlt : ∀ i, i < R → S.rw i < n + R
  clt : ∀ c, c < n → S.cl c < n + R
  rinj : ∀ i j, i < R → j < R → S.rw i = S.rw j → i = j
  cinj : ∀ i j, i < n → j < n → S.cl i = S.cl j → i = j
  dis : ∀ i c, i < R → c < n → S.rw i ≠ S.cl c
  sur : ∀ v, v < n + R → (∃ i, i < R ∧ S.rw i = v) ∨ (∃ c, c < n ∧ S.cl c = v)
  eqv : ∀ x, ConX A n R x ↔ ∀ i, i < R → x (S.rw i) = smQ (fun c => S.a i c * x (S.cl c)) n
  val : ConX A n R S.va
  nb : ∀ c, c < n → S.va (S.cl c) = if S.cl c < n then 0 else S.mo (S.cl c - n)
section
variable {A : Nat → Nat → Rat} {n R : Nat} {S : SX}
theorem vrow_at (h : InvX A n R S) {r c : Nat} (hr : r < R) (hc : c < n) : ∀ i, i ≤ R → (∀ v, (∀ k, k < i → S.rw k ≠ v) → v ≠ S.cl c → S.vrow r c i v = S.va v) ∧ (S.vrow r c i (S.cl c) = S.va (S.cl c) + S.by' r c) ∧
    (∀ k, k < R → k ≠ r → S.vrow r c i (S.rw k) = if k < i then S.va (S.rw k) + S.a k c * S.by' r c else S.va (S.rw k)) ∧ S.vrow r c i (S.rw r) = S.va (S.rw r) := by
  intro i
  induction i with
  | zero =>
    intro _
    refine ⟨fun v _ hv => ?_, ?_, fun k hk _ => ?_, ?_⟩
    · show (if v = S.cl c then _ else _) = _; rw [if_neg hv]
    · show (if S.cl c = S.cl c then _ else _) = _; rw [if_pos rfl]
    · show (if S.rw k = S.cl c then _ else _) = _; rw [if_neg (h.dis k c hk hc), if_neg (by omega)]
    · show (if S.rw r = S.cl c then _ else _) = _; rw [if_neg (h.dis r c hr hc)]
  | succ i ih =>
    intro hi
    obtain ⟨h1, h2, h3, h4⟩ := ih (by omega)
    by_cases e : i = r
    · subst e
      have e0 : S.vrow i c (i + 1) = S.vrow i c i := by show (if i = i then _ else _) = _; rw [if_pos rfl]
      rw [e0]
      refine ⟨fun v hv hv2 => h1 v (fun k hk => hv k (by omega)) hv2, h2, fun k hk hkr => ?_, h4⟩
      rw [h3 k hk hkr]
      by_cases c1 : k < i
      · rw [if_pos c1, if_pos (by omega)]
      · rw [if_neg c1, if_neg (by omega)]
    · have e0 : S.vrow r c (i + 1) = fun v => if v = S.rw i then S.vrow r c i v + S.a i c * S.by' r c else S.vrow r c i v := by show (if i = r then _ else _) = _; rw [if_neg e]
      rw [e0]
      refine ⟨fun v hv hv2 => ?_, ?_, fun k hk hkr => ?_, ?_⟩
      · show (if v = S.rw i then _ else _) = _
        rw [if_neg (fun e => hv i (by omega) e.symm)]; exact h1 v (fun k hk => hv k (by omega)) hv2
      · show (if S.cl c = S.rw i then _ else _) = _
        rw [if_neg (fun e => h.dis i c (by omega) hc e.symm)]; exact h2
      · show (if S.rw k = S.rw i then _ else _) = _
        by_cases c1 : k = i
        · subst c1
          rw [if_pos rfl, h3 k hk hkr, if_neg (by omega), if_pos (by omega)]
        · rw [if_neg (fun e => c1 (h.rinj _ _ hk (by omega) e)), h3 k hk hkr]
          by_cases c2 : k < i
          · rw [if_pos c2, if_pos (by omega)]
          · rw [if_neg c2, if_neg (by omega)]
      · show (if S.rw r = S.rw i then _ else _) = _
        rw [if_neg (fun e2 => e (h.rinj _ _ hr (by omega) e2).symm)]; exact h4
theorem tva_cl (h : InvX A n R S) {r c : Nat} (hr : r < R) (hc : c < n) : S.tva r c (S.cl c) = S.va (S.cl c) + S.by' r c := by
  show (if S.cl c = S.rw r then _ else _) = _
  rw [if_neg (fun e => h.dis r c hr hc e.symm), h.eR]; exact (vrow_at h hr hc R (Nat.le_refl _)).2.1
theorem tva_cl' (h : InvX A n R S) {r c j : Nat} (hr : r < R) (hc : c < n) (hj : j < n) (hjc : j ≠ c) : S.tva r c (S.cl j) = S.va (S.cl j) := by
  show (if S.cl j = S.rw r then _ else _) = _
  rw [if_neg (fun e => h.dis r j hr hj e.symm), h.eR]
  exact (vrow_at h hr hc R (Nat.le_refl _)).1 _ (fun k hk => h.dis k j hk hj) (fun e => hjc (h.cinj _ _ hj hc e))
theorem tva_rw (h : InvX A n R S) {r c : Nat} : S.tva r c (S.rw r) = S.mo (S.rw r - S.n) := by
  show (if S.rw r = S.rw r then _ else _) = _
  rw [if_pos rfl]
theorem tva_rw' (h : InvX A n R S) {r c i : Nat} (hr : r < R) (hc : c < n) (hi : i < R) (hir : i ≠ r) : S.tva r c (S.rw i) = S.va (S.rw i) + S.a i c * S.by' r c := by
  show (if S.rw i = S.rw r then _ else _) = _
  rw [if_neg (fun e => hir (h.rinj _ _ hi hr e)), h.eR, (vrow_at h hr hc R (Nat.le_refl _)).2.2.1 i hi hir, if_pos hi]
theorem ov_ge (h : InvX A n R S) {v : Nat} (hv : n ≤ v) : S.ov v = S.va v - S.mo (v - n) := by
  unfold SX.ov; rw [h.en, if_neg (by omega)]
theorem InvX.piv (h : InvX A n R S) {r c : Nat} (hr : r < R) (hc : c < n) (ha : S.a r c ≠ 0) (hrn : n ≤ S.rw r) : InvX A n R (S.piv r c) := by
  have hinv : S.a r c * (S.a r c)⁻¹ = 1 := Rat.mul_inv_cancel _ ha
  generalize hb : (S.a r c)⁻¹ = b at hinv
  have hro : ∀ i, (S.piv r c).rw i = if i = r then S.cl c else S.rw i := fun _ => rfl
  have hco : ∀ j, (S.piv r c).cl j = if j = c then S.rw r else S.cl j := fun _ => rfl
  have htr : ∀ j, S.trow r c j = if j = c then b else -(S.a r j * b) := fun j => by unfold SX.trow; rw [hb]
  -- sums but one
  have hs : ∀ (x : Nat → Rat) i, i < R → smQ (fun j => S.a i j * x (S.cl j)) n = smQ (fun j => if j = c then 0 else S.a i j * x (S.cl j)) n + S.a i c * x (S.cl c) := fun x i _ => smQ_split hc
  have hs' : ∀ (x : Nat → Rat) i, smQ (fun j => (S.piv r c).a i j * x ((S.piv r c).cl j)) n = smQ (fun j => if j = c then 0 else (S.piv r c).a i j * x (S.cl j)) n + (S.piv r c).a i c * x (S.rw r) := fun x i => by
    rw [smQ_split hc, hco, if_pos rfl]
    congr 1
    exact smQ_congr fun j _ => by
      by_cases e : j = c
      · rw [if_pos e, if_pos e]
      · rw [if_neg e, if_neg e, hco, if_neg e]
  have hr0 : ∀ (x : Nat → Rat), smQ (fun j => if j = c then 0 else (S.piv r c).a r j * x (S.cl j)) n = -b * smQ (fun j => if j = c then 0 else S.a r j * x (S.cl j)) n := fun x => by
    rw [← smQ_mul]
    refine smQ_congr fun j _ => ?_
    by_cases e : j = c
    · rw [if_pos e, if_pos e]; grind
    · rw [if_neg e, if_neg e]
      show S.ta r c r j * _ = _
      unfold SX.ta
      rw [if_pos rfl, htr, if_neg e]; grind
  have hrc : (S.piv r c).a r c = b := by show S.ta r c r c = b; unfold SX.ta; rw [if_pos rfl, htr, if_pos rfl]
  have hi0 : ∀ (x : Nat → Rat) i, i ≠ r → smQ (fun j => if j = c then 0 else (S.piv r c).a i j * x (S.cl j)) n = smQ (fun j => if j = c then 0 else S.a i j * x (S.cl j)) n + -(S.a i c * b) * smQ (fun j => if j = c then 0 else S.a r j * x (S.cl j)) n := fun x i hi => by
    rw [← smQ_mul, ← smQ_add]
    refine smQ_congr fun j _ => ?_
    by_cases e : j = c
    · rw [if_pos e, if_pos e, if_pos e]; grind
    · rw [if_neg e, if_neg e, if_neg e]
      show S.ta r c i j * _ = _
      unfold SX.ta
      rw [if_neg hi, if_neg e, htr, if_neg e]; grind
  have hic : ∀ i, i ≠ r → (S.piv r c).a i c = S.a i c * b := fun i hi => by show S.ta r c i c = _; unfold SX.ta; rw [if_neg hi, if_pos rfl, htr, if_pos rfl]
  refine ⟨h.en, h.eR, fun i hi => ?_, fun j hj => ?_, fun i j hi hj e => ?_, fun i j hi hj e => ?_, fun i j hi hj e => ?_, fun v hv => ?_, fun x => ?_, ?_, fun j hj => ?_⟩
  · rw [hro]; split
    · exact h.clt c hc
    · exact h.rlt i hi
  · rw [hco]; split
    · exact h.rlt r hr
    · exact h.clt j hj
  · rw [hro, hro] at e
    split at e <;> split at e
    · omega
    · exact (h.dis j c hj hc e.symm).elim
    · exact (h.dis i c hi hc e).elim
    · exact h.rinj i j hi hj e
  · rw [hco, hco] at e
    split at e <;> split at e
    · omega
    · exact (h.dis r j hr hj e).elim
    · exact (h.dis r i hr hi e.symm).elim
    · exact h.cinj i j hi hj e
  · rw [hro, hco] at e
    split at e <;> split at e
    · exact h.dis r c hr hc e.symm
    · rename_i h1 h2; exact h2 (h.cinj _ _ hc hj e).symm
    · rename_i h1 h2; exact h1 (h.rinj _ _ hi hr e)
    · exact h.dis i j hi hj e
  · rcases h.sur v hv with ⟨i, hi, e⟩ | ⟨j, hj, e⟩
    · by_cases e2 : i = r
      · subst e2; exact .inr ⟨c, hc, by rw [hco, if_pos rfl]; exact e⟩
      · exact .inl ⟨i, hi, by rw [hro, if_neg e2]; exact e⟩
    · by_cases e2 : j = c
      · subst e2; exact .inl ⟨r, hr, by rw [hro, if_pos rfl]; exact e⟩
      · exact .inr ⟨j, hj, by rw [hco, if_neg e2]; exact e⟩
  · rw [h.eqv x]
    refine ⟨fun hx i hi => ?_, fun hx i hi => ?_⟩
    · have h1 := hx r hr
      rw [hs x r hr] at h1
      rw [hs' x i]
      by_cases e : i = r
      · subst e
        rw [hro, if_pos rfl, hr0, hrc]
        grind
      · have h2 := hx i hi
        rw [hs x i hi] at h2
        rw [hro, if_neg e, hi0 x i e, hic i e]
        grind
    · have h1 := hx r hr
      rw [hro, if_pos rfl, hs' x r, hr0, hrc] at h1
      rw [hs x i hi]
      by_cases e : i = r
      · subst e
        grind
      · have h2 := hx i hi
        rw [hro, if_neg e, hs' x i, hi0 x i e, hic i e] at h2
        grind
  · rw [h.eqv]
    intro i hi
    have hv := (h.eqv S.va).1 h.val
    show S.tva r c (S.rw i) = smQ (fun j => S.a i j * S.tva r c (S.cl j)) n
    rw [hs (S.tva r c) i hi, tva_cl h hr hc, smQ_congr (f := fun j => if j = c then 0 else S.a i j * S.tva r c (S.cl j)) (g := fun j => if j = c then 0 else S.a i j * S.va (S.cl j)) fun j hj => by
      by_cases e : j = c
      · rw [if_pos e, if_pos e]
      · rw [if_neg e, if_neg e, tva_cl' h hr hc hj e]]
    have h2 := hv i hi
    rw [hs S.va i hi] at h2
    by_cases e : i = r
    · subst e
      rw [tva_rw h, h.en]
      have h3 := ov_ge h hrn
      have h4 : S.by' i c = -(S.ov (S.rw i)) * b := by unfold SX.by'; rw [hb]
      grind
    · rw [tva_rw' h hr hc hi e]
      grind
  · show S.tva r c ((S.piv r c).cl j) = if (S.piv r c).cl j < n then 0 else S.mo ((S.piv r c).cl j - n)
    rw [hco]
    by_cases e : j = c
    · rw [if_pos e, tva_rw h, h.en, if_neg (by omega)]
    · rw [if_neg e, tva_cl' h hr hc hj e]; exact h.nb j hj
end
end Go.Abs
namespace Go.Abs
/-! ### Pigeons -/
theorem pigeon : ∀ (N : Nat) (f : Nat → Nat), (∀ i, i ≤ N → f i < N) → ∃ i j, i < j ∧ j ≤ N ∧ f i = f j
  | 0, f, h => by have := h 0 (Nat.le_refl _); omega
  | N + 1, f, h => by
    by_cases hc : ∃ i, i ≤ N ∧ f i = f (N + 1)
    · obtain ⟨i, hi, e⟩ := hc; exact ⟨i, N + 1, by omega, Nat.le_refl _, e⟩
    · have hne : ∀ i, i ≤ N → f i ≠ f (N + 1) := fun i hi e => hc ⟨i, hi, e⟩
      obtain ⟨i, j, h1, h2, h3⟩ := pigeon N (fun i => if f i = N then f (N + 1) else f i) fun i hi => by
        have h4 := h i (by omega)
        have h5 := h (N + 1) (Nat.le_refl _)
        have h6 := hne i hi
        split <;> omega
      refine ⟨i, j, h1, by omega, ?_⟩
      have h4 := hne i (by omega)
      have h5 := hne j h2
      have h3 : (if f i = N then f (N + 1) else f i) = (if f j = N then f (N + 1) else f j) := h3
      split at h3 <;> split at h3 <;> omega
/-- A number by its digits. -/
def encD (M : Nat) (s : Nat → Nat) : Nat → Nat
  | 0 => 0
  | j + 1 => encD M s j + s j * M ^ j
theorem encD_lt {M : Nat} {s : Nat → Nat} : ∀ {n : Nat}, (∀ j, j < n → s j < M) → encD M s n < M ^ n
  | 0, _ => Nat.one_pos
  | n + 1, h => by
    have h1 := encD_lt fun j hj => h j (Nat.lt_succ_of_lt hj)
    have h2 := h n (Nat.lt_succ_self n)
    have h3 : (s n + 1) * M ^ n ≤ M * M ^ n := Nat.mul_le_mul_right _ h2
    rw [encD, Nat.pow_succ, Nat.mul_comm (M ^ n)]
    rw [Nat.succ_mul] at h3; omega
theorem encD_inj {M : Nat} {s t : Nat → Nat} : ∀ {n : Nat}, (∀ j, j < n → s j < M) → (∀ j, j < n → t j < M) → encD M s n = encD M t n → ∀ j, j < n → s j = t j
  | 0, _, _, _, j, hj => by omega
  | n + 1, hs, ht, h, j, hj => by
    have h1 := encD_lt (n := n) fun j hj => hs j (Nat.lt_succ_of_lt hj)
    have h2 := encD_lt (n := n) fun j hj => ht j (Nat.lt_succ_of_lt hj)
    rw [encD, encD] at h
    have hp : 0 < M ^ n := by omega
    have e1 : (encD M s n + s n * M ^ n) / M ^ n = s n := by rw [Nat.add_mul_div_right _ _ hp, Nat.div_eq_of_lt h1, Nat.zero_add]
    have e2 : (encD M t n + t n * M ^ n) / M ^ n = t n := by rw [Nat.add_mul_div_right _ _ hp, Nat.div_eq_of_lt h2, Nat.zero_add]
    have e3 : s n = t n := by rw [← e1, ← e2, h]
    by_cases e : j = n
    · rw [e, e3]
    · rw [e3] at h
      exact encD_inj (n := n) (fun j hj => hs j (Nat.lt_succ_of_lt hj)) (fun j hj => ht j (Nat.lt_succ_of_lt hj)) (by omega) j (by omega)
theorem encD_dec {b k : Nat} : ∀ {m : Nat}, encD b (fun i => k / b ^ i % b) m = k % b ^ m
  | 0 => by rw [encD, Nat.pow_zero, Nat.mod_one]
  | m + 1 => by rw [encD, encD_dec, Nat.mod_pow_succ, Nat.mul_comm (b ^ m)]
/-! ### Small relations among integer rows -/
def smI (f : Nat → Int) : Nat → Int
  | 0 => 0
  | n + 1 => smI f n + f n
theorem smI_congr {f g : Nat → Int} : ∀ {n : Nat}, (∀ i, i < n → f i = g i) → smI f n = smI g n
  | 0, _ => rfl
  | n + 1, h => by rw [smI, smI, smI_congr fun i hi => h i (Nat.lt_succ_of_lt hi), h n (Nat.lt_succ_self n)]
theorem smI_sub {f g : Nat → Int} : ∀ {n : Nat}, smI (fun i => f i - g i) n = smI f n - smI g n
  | 0 => rfl
  | n + 1 => by rw [smI, smI, smI, smI_sub]; omega
theorem smI_abs {f : Nat → Int} {K : Nat} : ∀ {n : Nat}, (∀ i, i < n → (f i).natAbs ≤ K) → (smI f n).natAbs ≤ n * K
  | 0, _ => by show (0 : Int).natAbs ≤ _; simp
  | n + 1, h => by
    have h1 := smI_abs fun i hi => h i (Nat.lt_succ_of_lt hi)
    have h2 := h n (Nat.lt_succ_self n)
    rw [smI, Nat.succ_mul]; omega
theorem siegel (n B : Nat) (w : Nat → Nat → Int) (hB : ∀ i j, i < n + 1 → j < n → (w i j).natAbs ≤ B) :
    ∃ y : Nat → Int, (∃ i, i < n + 1 ∧ y i ≠ 0) ∧ (∀ i, i < n + 1 → (y i).natAbs ≤ (2 * ((n + 1) * B) + 1) ^ n) ∧ ∀ j, j < n → smI (fun i => y i * w i j) (n + 1) = 0 := by
  obtain ⟨Q, hQ⟩ : ∃ Q, Q = 2 * ((n + 1) * B) + 1 := ⟨_, rfl⟩
  obtain ⟨H, hH⟩ : ∃ H, H = Q ^ n := ⟨_, rfl⟩
  have hH1 : 1 ≤ H := by rw [hH]; exact Nat.pow_pos (by omega)
  obtain ⟨Z, hZ⟩ : ∃ Z, Z = (n + 1) * (H * B) := ⟨_, rfl⟩
  obtain ⟨M, hM⟩ : ∃ M, M = 2 * Z + 1 := ⟨_, rfl⟩
  obtain ⟨d, hd⟩ : ∃ d : Nat → Nat → Nat, d = fun k i => k / (H + 1) ^ i % (H + 1) := ⟨_, rfl⟩
  have hdl : ∀ k i, d k i ≤ H := fun k i => by
    have : k / (H + 1) ^ i % (H + 1) < H + 1 := Nat.mod_lt _ (by omega)
    rw [hd]; show k / (H + 1) ^ i % (H + 1) ≤ H; omega
  obtain ⟨s, hs⟩ : ∃ s : Nat → Nat → Int, s = fun k j => smI (fun i => (d k i : Int) * w i j) (n + 1) := ⟨_, rfl⟩
  have hsb : ∀ k j, j < n → (s k j).natAbs ≤ Z := fun k j hj => by
    have := smI_abs (f := fun i => (d k i : Int) * w i j) (K := H * B) (n := n + 1) fun i hi => by
      rw [Int.natAbs_mul, Int.natAbs_natCast]
      exact Nat.mul_le_mul (hdl k i) (hB i j hi hj)
    rw [hs, hZ]; exact this
  obtain ⟨u, hu⟩ : ∃ u : Nat → Nat → Nat, u = fun k j => (s k j + Z).toNat := ⟨_, rfl⟩
  have hul : ∀ k j, j < n → u k j < M := fun k j hj => by
    have := hsb k j hj
    rw [hu]; show (s k j + Z).toNat < M; omega
  have hMQ : M ≤ Q * H := by
    have e1 : Q * H = 2 * Z + H := by rw [hQ, hZ, Nat.succ_mul]; congr 1; rw [Nat.mul_assoc]; congr 1; rw [Nat.mul_assoc]; congr 1; exact Nat.mul_comm _ _
    omega
  have hbig : M ^ n < (H + 1) ^ (n + 1) := by
    have h1 : M ^ n ≤ (Q * H) ^ n := Nat.pow_le_pow_left hMQ n
    rw [Nat.mul_pow, ← hH] at h1
    have h2 : H * H ^ n = H ^ (n + 1) := by rw [Nat.pow_succ, Nat.mul_comm]
    have h3 : H ^ (n + 1) < (H + 1) ^ (n + 1) := Nat.pow_lt_pow_left (Nat.lt_succ_self H) (by omega)
    omega
  obtain ⟨k, l, h1, h2, h3⟩ := pigeon (M ^ n) (fun k => encD M (u k) n) fun k _ => encD_lt fun j hj => hul k j hj
  have hsame := encD_inj (fun j hj => hul k j hj) (fun j hj => hul l j hj) h3
  refine ⟨fun i => (d l i : Int) - d k i, ?_, fun i _ => ?_, fun j hj => ?_⟩
  · by_cases hc : ∃ i, i < n + 1 ∧ (d l i : Int) - d k i ≠ 0
    · exact hc
    · exfalso
      have he : ∀ i, i < n + 1 → d l i = d k i := fun i hi => by
        by_cases e : d l i = d k i
        · exact e
        · exact (hc ⟨i, hi, by omega⟩).elim
      have hk : ∀ k, k ≤ M ^ n → encD (H + 1) (d k) (n + 1) = k := fun k hk => by
        rw [hd]; show encD (H + 1) (fun i => k / (H + 1) ^ i % (H + 1)) (n + 1) = k
        rw [encD_dec, Nat.mod_eq_of_lt (by omega)]
      have hcg : ∀ m, m ≤ n + 1 → encD (H + 1) (d l) m = encD (H + 1) (d k) m := fun m => by
        induction m with
        | zero => intro _; rfl
        | succ m ih => intro hm; rw [encD, encD, ih (by omega), he m (by omega)]
      have := hcg (n + 1) (Nat.le_refl _)
      rw [hk l h2, hk k (by omega)] at this
      omega
  · have h4 := hdl l i
    have h5 := hdl k i
    rw [← hQ, ← hH]; show ((d l i : Int) - d k i).natAbs ≤ H; omega
  · have e1 : smI (fun i => ((d l i : Int) - d k i) * w i j) (n + 1) = s l j - s k j := by
      rw [hs]
      show _ = smI (fun i => (d l i : Int) * w i j) (n + 1) - smI (fun i => (d k i : Int) * w i j) (n + 1)
      rw [← smI_sub]
      exact smI_congr fun i _ => Int.sub_mul _ _ _
    rw [e1]
    have h4 := hsame j hj
    have h5 := hsb k j hj
    have h6 := hsb l j hj
    rw [hu] at h4
    have h4 : (s k j + Z).toNat = (s l j + Z).toNat := h4
    omega
end Go.Abs
namespace Go.Abs
/-! ### Bland's rule ends -/
namespace SX
def bas (S : SX) (v : Nat) : Prop := ∃ i, i < S.R ∧ S.rw i = v
def outv (S : SX) : Nat := match S.broken with | some r => S.rw r | none => 0
def inv (S : SX) : Nat := match S.broken with
  | some r => (match S.column r with | some c => S.cl c | none => 0)
  | none => 0
end SX
section
variable {A : Nat → Nat → Rat} {n R : Nat} {S S' : SX}
theorem InvX.broken (h : InvX A n R S) {r : Nat} (hb : S.broken = some r) : r < R ∧ n ≤ S.rw r ∧ 0 < S.ov (S.rw r) ∧ ∀ i, i < R → n ≤ S.rw i → 0 < S.ov (S.rw i) → S.rw r ≤ S.rw i := by
  obtain ⟨h1, h2, h3⟩ := argm_some hb
  unfold SX.bad at h2
  rw [Bool.and_eq_true, decide_eq_true_eq, decide_eq_true_eq, h.en] at h2
  refine ⟨h.eR ▸ h1, h2.1, h2.2, fun i hi hn hp => h3 i (h.eR ▸ hi) ?_⟩
  unfold SX.bad
  rw [Bool.and_eq_true, decide_eq_true_eq, decide_eq_true_eq, h.en]
  exact ⟨hn, hp⟩
theorem InvX.sound (h : InvX A n R S) (hb : S.broken = none) : ∀ v, n ≤ v → v < n + R → S.va v ≤ S.mo (v - n) := by
  intro v hv hv2
  rcases h.sur v hv2 with ⟨i, hi, rfl⟩ | ⟨c, hc, rfl⟩
  · have := argm_none hb i (h.eR ▸ hi)
    unfold SX.bad at this
    rw [Bool.and_eq_false_iff, decide_eq_false_iff_not, decide_eq_false_iff_not, h.en] at this
    rcases this with h1 | h1
    · omega
    · rw [ov_ge h hv] at h1; grind
  · have := h.nb c hc
    rw [if_neg (by omega)] at this
    rw [this]; grind
theorem InvX.column (h : InvX A n R S) {r c : Nat} (hb : S.column r = some c) : c < n ∧ (0 < S.a r c ∨ S.a r c < 0 ∧ S.cl c < n) ∧ ∀ j, j < n → 0 < S.a r j ∨ S.a r j < 0 ∧ S.cl j < n → S.cl c ≤ S.cl j := by
  obtain ⟨h1, h2, h3⟩ := argm_some hb
  have hov : ∀ j, j < n → ¬ S.cl j < n → S.ov (S.cl j) = 0 := fun j hj hn => by
    rw [ov_ge h (by omega), h.nb j hj, if_neg hn]; grind
  have hcn : c < n := h.en ▸ h1
  unfold SX.may at h2
  rw [Bool.or_eq_true, Bool.and_eq_true, Bool.or_eq_true, decide_eq_true_eq, decide_eq_true_eq, decide_eq_true_eq, decide_eq_true_eq, h.en] at h2
  refine ⟨hcn, ?_, fun j hj hp => h3 j (h.en ▸ hj) ?_⟩
  · rcases h2 with h2 | ⟨h2, h4 | h4⟩
    · exact .inl h2
    · exact .inr ⟨h2, h4⟩
    · by_cases hn : S.cl c < n
      · exact .inr ⟨h2, hn⟩
      · rw [hov c hcn hn] at h4; exact (Rat.lt_irrefl h4).elim
  · unfold SX.may
    rw [Bool.or_eq_true, Bool.and_eq_true, Bool.or_eq_true, decide_eq_true_eq, decide_eq_true_eq, decide_eq_true_eq, decide_eq_true_eq, h.en]
    rcases hp with hp | hp
    · exact .inl hp
    · exact .inr ⟨hp.1, .inl hp.2⟩
theorem InvX.nocol (h : InvX A n R S) {r : Nat} (hb : S.column r = none) : ∀ c, c < n → S.a r c ≤ 0 ∧ (S.cl c < n → S.a r c = 0) := by
  intro c hc
  have := argm_none hb c (h.en ▸ hc)
  unfold SX.may at this
  rw [Bool.or_eq_false_iff, Bool.and_eq_false_iff, Bool.or_eq_false_iff, decide_eq_false_iff_not, decide_eq_false_iff_not, decide_eq_false_iff_not, h.en] at this
  obtain ⟨h1, h2⟩ := this
  refine ⟨by grind, fun hn => ?_⟩
  rcases h2 with h2 | h2
  · grind
  · exact (h2.1 hn).elim
theorem InvX.stepd (h : InvX A n R S) (hs : S.step = some S') : ∃ r c, S.broken = some r ∧ S.column r = some c ∧ S' = S.piv r c ∧ r < R ∧ c < n ∧ S.a r c ≠ 0 ∧ n ≤ S.rw r ∧ InvX A n R S' := by
  unfold SX.step at hs
  cases hb : S.broken with
  | none => rw [hb] at hs; cases hs
  | some r =>
    rw [hb] at hs
    have hs : (match S.column r with | none => none | some c => some (S.piv r c)) = some S' := hs
    cases hc : S.column r with
    | none => rw [hc] at hs; cases hs
    | some c =>
      rw [hc] at hs
      cases hs
      obtain ⟨h1, h2, _⟩ := h.broken hb
      obtain ⟨h3, h4, _⟩ := h.column hc
      have h5 : S.a r c ≠ 0 := by
        intro e; rw [e] at h4
        rcases h4 with h4 | h4
        · exact Rat.lt_irrefl h4
        · exact Rat.lt_irrefl h4.1
      exact ⟨r, c, rfl, hc, rfl, h1, h3, h5, h2, h.piv h1 h3 h5 h2⟩
theorem exists_max (f : Nat → Nat) : ∀ {k : Nat}, 0 < k → ∃ p, p < k ∧ ∀ i, i < k → f i ≤ f p
  | 0, h => by omega
  | 1, _ => ⟨0, by omega, fun i hi => by rw [show i = 0 by omega]; exact Nat.le_refl _⟩
  | k + 2, _ => by
    obtain ⟨p, h1, h2⟩ := exists_max f (k := k + 1) (by omega)
    by_cases c : f p ≤ f (k + 1)
    · refine ⟨k + 1, by omega, fun i hi => ?_⟩
      by_cases e : i = k + 1
      · rw [e]; exact Nat.le_refl _
      · have := h2 i (by omega); omega
    · refine ⟨p, by omega, fun i hi => ?_⟩
      by_cases e : i = k + 1
      · rw [e]; omega
      · exact h2 i (by omega)
theorem persist {P : Nat → Prop} {k : Nat} (h : ∀ i, i < k → P i → P (i + 1)) {i : Nat} : ∀ {j : Nat}, i ≤ j → j ≤ k → P i → P j
  | 0, hi, _, hp => by rwa [show i = 0 by omega] at hp
  | j + 1, hi, hj, hp => by
    by_cases e : i = j + 1
    · rwa [e] at hp
    · exact h j (by omega) (persist h (j := j) (by omega) (by omega) hp)
theorem bland (T : Nat → SX) (k : Nat) (hk : 0 < k) (hI : ∀ i, i ≤ k → InvX A n R (T i)) (mo : Nat → Rat) (hmo : ∀ i, i ≤ k → (T i).mo = mo) (hs : ∀ i, i < k → (T i).step = some (T (i + 1)))
    (hb : ∀ v, (T 0).bas v ↔ (T k).bas v) : False := by
  have hst : ∀ i, i < k → ∃ r c, (T i).broken = some r ∧ (T i).column r = some c ∧ (T i).outv = (T i).rw r ∧ (T i).inv = (T i).cl c ∧ r < R ∧ c < n := fun i hi => by
    obtain ⟨r, c, h1, h2, _, h3, h4, _⟩ := (hI i (by omega)).stepd (hs i hi)
    refine ⟨r, c, h1, h2, ?_, ?_, h3, h4⟩
    · unfold SX.outv; rw [h1]
    · unfold SX.inv; rw [h1]; show (match (T i).column r with | some c => (T i).cl c | none => 0) = _; rw [h2]
  have hbas : ∀ i, i ≤ k → ∀ v, (T i).bas v ↔ ∃ j, j < R ∧ (T i).rw j = v := fun i hi v => by
    unfold SX.bas; rw [(hI i hi).eR]
  have hinb : ∀ i, i < k → ¬ (T i).bas (T i).inv := fun i hi hh => by
    obtain ⟨r, c, _, _, _, h4, _, h6⟩ := hst i hi
    obtain ⟨j, hj, e⟩ := (hbas i (by omega) _).1 hh
    rw [h4] at e
    exact (hI i (by omega)).dis j c hj h6 e
  have houtb : ∀ i, i < k → (T i).bas (T i).outv := fun i hi => by
    obtain ⟨r, c, _, _, h3, _, h5, _⟩ := hst i hi
    exact (hbas i (by omega) _).2 ⟨r, h5, h3.symm⟩
  have hnext : ∀ i, i < k → ∀ v, (T (i + 1)).bas v ↔ ((T i).bas v ∧ v ≠ (T i).outv) ∨ v = (T i).inv := fun i hi v => by
    obtain ⟨r, c, h1, h2, h3, h4, h5, h6⟩ := hst i hi
    obtain ⟨r', c', k1, k2, k3, _⟩ := (hI i (by omega)).stepd (hs i hi)
    rw [h1] at k1; cases k1
    rw [h2] at k2; cases k2
    have hi' := hI i (by omega)
    rw [hbas (i + 1) (by omega), hbas i (by omega), h3, h4, k3]
    constructor
    · rintro ⟨j, hj, e⟩
      have e : (if j = r then (T i).cl c else (T i).rw j) = v := e
      by_cases hjr : j = r
      · rw [if_pos hjr] at e; exact .inr e.symm
      · rw [if_neg hjr] at e
        exact .inl ⟨⟨j, hj, e⟩, fun e2 => hjr (hi'.rinj _ _ hj h5 (e.trans e2))⟩
    · rintro (⟨⟨j, hj, e⟩, hne⟩ | e)
      · refine ⟨j, hj, ?_⟩
        show (if j = r then (T i).cl c else (T i).rw j) = v
        rw [if_neg (fun e2 => hne (by rw [← e, e2]))]; exact e
      · exact ⟨r, h5, by show (if r = r then (T i).cl c else _) = v; rw [if_pos rfl, e]⟩
  have hleft : ∀ i, i < k → ∃ j, j < k ∧ (T j).outv = (T i).inv := fun i hi => by
    by_cases hc : ∃ j, j < k ∧ (T j).outv = (T i).inv
    · exact hc
    · exfalso
      have hst : ∀ j, j < k → (T j).bas (T i).inv → (T (j + 1)).bas (T i).inv := fun j hj hbj => (hnext j hj _).2 (.inl ⟨hbj, fun e => hc ⟨j, hj, e.symm⟩⟩)
      have h1 : (T (i + 1)).bas (T i).inv := (hnext i hi _).2 (.inr rfl)
      have h2 := persist hst (i := i + 1) (j := k) (by omega) (Nat.le_refl _) h1
      have h3 := persist hst (i := 0) (j := i) (by omega) (by omega) ((hb _).2 h2)
      exact hinb i hi h3
  obtain ⟨p, hp, hmax⟩ := exists_max (fun i => (T i).outv) hk
  have hmax : ∀ i, i < k → (T i).outv ≤ (T p).outv := hmax
  obtain ⟨q, hq, hqe⟩ : ∃ q, q < k ∧ (T q).inv = (T p).outv := by
    by_cases hc : ∃ q, q < k ∧ (T q).inv = (T p).outv
    · exact hc
    · exfalso
      have hst : ∀ j, j < k → ¬ (T j).bas (T p).outv → ¬ (T (j + 1)).bas (T p).outv := fun j hj hbj hh => by
        rcases (hnext j hj _).1 hh with h | h
        · exact hbj h.1
        · exact hc ⟨j, hj, h.symm⟩
      have h1 : ¬ (T (p + 1)).bas (T p).outv := fun hh => by
        rcases (hnext p hp _).1 hh with h | h
        · exact h.2 rfl
        · exact hc ⟨p, hp, h.symm⟩
      have h2 := persist hst (i := p + 1) (j := k) (by omega) (Nat.le_refl _) h1
      have h3 := persist hst (i := 0) (j := p) (by omega) (by omega) (fun hh => h2 ((hb _).1 hh))
      exact h3 (houtb p hp)
  generalize ht : (T p).outv = t at *
  obtain ⟨rp, cp, p1, p2, p3, p4, p5, p6⟩ := hst p hp
  obtain ⟨rq, cq, q1, q2, q3, q4, q5, q6⟩ := hst q hq
  have Ip := hI p (by omega)
  have Iq := hI q (by omega)
  obtain ⟨_, b2, b3, b4⟩ := Ip.broken p1
  obtain ⟨_, d2, d3, _⟩ := Iq.broken q1
  obtain ⟨_, e2, e3⟩ := Iq.column q2
  have htp : (T p).rw rp = t := by rw [← p3, ht]
  have htq : (T q).cl cq = t := by rw [← q4, hqe]
  rw [htp] at b2 b3 b4
  have hmp := hmo p (by omega)
  have hmq := hmo q (by omega)
  -- what is nonbasic at p, or is below t there
  have hle : ∀ v, n ≤ v → v < n + R → v < t → (T p).va v ≤ mo (v - n) := fun v hv hvR hvt => by
    rcases Ip.sur v hvR with ⟨i, hi, rfl⟩ | ⟨c, hc, rfl⟩
    · have h1 : ¬ 0 < (T p).ov ((T p).rw i) := fun h => by have := b4 i hi hv h; omega
      rw [ov_ge Ip hv, hmp] at h1; grind
    · have h1 := Ip.nb c hc
      rw [if_neg (by omega), hmp] at h1
      rw [h1]; exact Rat.le_refl
  have hvp : (T p).va ((T q).rw rq) = _ := (Iq.eqv _).1 Ip.val rq q5
  have hvq : (T q).va ((T q).rw rq) = _ := (Iq.eqv _).1 Iq.val rq q5
  have hdiff : (T p).va ((T q).rw rq) - (T q).va ((T q).rw rq) = smQ (fun c => (T q).a rq c * ((T p).va ((T q).cl c) - (T q).va ((T q).cl c))) n := by
    have : smQ (fun c => (T q).a rq c * ((T p).va ((T q).cl c) - (T q).va ((T q).cl c))) n + smQ (fun c => (T q).a rq c * (T q).va ((T q).cl c)) n = smQ (fun c => (T q).a rq c * (T p).va ((T q).cl c)) n := by
      rw [← smQ_add]
      exact smQ_congr fun c _ => by grind
    rw [hvp, hvq, ← this]; grind
  have hpos : 0 < smQ (fun c => (T q).a rq c * ((T p).va ((T q).cl c) - (T q).va ((T q).cl c))) n := by
    refine smQ_pos q6 (fun c hc => ?_) ?_
    · show 0 ≤ (T q).a rq c * ((T p).va ((T q).cl c) - (T q).va ((T q).cl c))
      by_cases hf : ∃ i, i < k ∧ (T i).outv = (T q).cl c
      · obtain ⟨i, hi, hie⟩ := hf
        have hcn : n ≤ (T q).cl c := by
          obtain ⟨r, c', h1, _, h3, _⟩ := hst i hi
          have := ((hI i (by omega)).broken h1).2.1
          rw [← hie, h3]; exact this
        have hct : (T q).cl c ≤ t := by rw [← hie]; exact hmax i hi
        have hvc : (T q).va ((T q).cl c) = mo ((T q).cl c - n) := by
          have := Iq.nb c hc
          rw [if_neg (by omega), hmq] at this; exact this
        by_cases hct2 : (T q).cl c = t
        · have hca : c = cq := Iq.cinj _ _ hc q6 (hct2.trans htq.symm)
          subst hca
          have ha : 0 < (T q).a rq c := by
            rcases e2 with e2 | e2
            · exact e2
            · omega
          have h1 : 0 < (T p).va t - mo (t - n) := by rw [← hmp, ← ov_ge Ip (by omega)]; exact b3
          rw [hvc, htq]
          exact Rat.le_of_lt (Rat.mul_pos ha h1)
        · have h1 := hle _ hcn (Iq.clt c hc) (by omega)
          have ha : ¬ 0 < (T q).a rq c := fun h => by
            have := e3 c hc (.inl h)
            rw [htq] at this; omega
          rw [hvc]
          have h2 : (T q).a rq c ≤ 0 := Rat.not_lt.1 ha
          have h3 : (T p).va ((T q).cl c) - mo ((T q).cl c - n) ≤ 0 := by grind
          have h4 := Rat.mul_nonneg (a := -(T q).a rq c) (b := -((T p).va ((T q).cl c) - mo ((T q).cl c - n))) (by grind) (by grind)
          grind
      · -- it stays outside all along
        have hni : ∀ i, i < k → (T i).inv ≠ (T q).cl c := fun i hi e => by
          obtain ⟨j, hj, e2⟩ := hleft i hi
          exact hf ⟨j, hj, by rw [e2, e]⟩
        have hnq : ¬ (T q).bas ((T q).cl c) := fun hh => by
          obtain ⟨j, hj, e⟩ := (hbas q (by omega) _).1 hh
          exact Iq.dis j c hj hc e
        have hst1 : ∀ j, j < k → ¬ (T j).bas ((T q).cl c) → ¬ (T (j + 1)).bas ((T q).cl c) := fun j hj hbj hh => by
          rcases (hnext j hj _).1 hh with h | h
          · exact hbj h.1
          · exact hni j hj h.symm
        have hk0 := persist hst1 (i := q) (j := k) (by omega) (Nat.le_refl _) hnq
        have hpn := persist hst1 (i := 0) (j := p) (by omega) (by omega) (fun hh => hk0 ((hb _).1 hh))
        have hvR := Iq.clt c hc
        rcases Ip.sur _ hvR with ⟨i, hi, e⟩ | ⟨c2, hc2, e⟩
        · exact (hpn ((hbas p (by omega) _).2 ⟨i, hi, e⟩)).elim
        · have h1 := Ip.nb c2 hc2
          have h2 := Iq.nb c hc
          rw [e, hmp] at h1
          rw [hmq] at h2
          rw [h1, h2]
          have : (if (T q).cl c < n then (0 : Rat) else mo ((T q).cl c - n)) - (if (T q).cl c < n then (0 : Rat) else mo ((T q).cl c - n)) = 0 := by grind
          rw [this, Rat.mul_zero]; exact Rat.le_refl
    · show 0 < (T q).a rq cq * ((T p).va ((T q).cl cq) - (T q).va ((T q).cl cq))
      have hvc : (T q).va ((T q).cl cq) = mo ((T q).cl cq - n) := by
        have := Iq.nb cq q6
        rw [if_neg (by omega), hmq] at this; exact this
      have ha : 0 < (T q).a rq cq := by
        rcases e2 with e2 | e2
        · exact e2
        · omega
      have h1 : 0 < (T p).va t - mo (t - n) := by rw [← hmp, ← ov_ge Ip (by omega)]; exact b3
      rw [hvc, htq]
      exact Rat.mul_pos ha h1
  -- the row that is turned at q is fickle and below t
  have hst2 : (T q).rw rq ≤ t := by rw [← q3]; exact hmax q hq
  have hne : (T q).rw rq ≠ t := fun e => Iq.dis rq cq q5 q6 (e.trans htq.symm)
  have h1 := hle _ d2 (Iq.rlt rq q5) (by omega)
  rw [ov_ge Iq d2, hmq] at d3
  grind
end
end Go.Abs
namespace Go.Abs
/-! ### From the start; that it ends; sums that can't be; sizes -/
def startX (A : Nat → Nat → Rat) (n R : Nat) (mo : Nat → Rat) : SX := ⟨n, R, fun i => n + i, fun j => j, A, fun _ => 0, mo⟩
theorem startX_inv (A : Nat → Nat → Rat) (n R : Nat) (mo : Nat → Rat) : InvX A n R (startX A n R mo) where
  en := rfl
  eR := rfl
  rlt i hi := by show n + i < n + R; omega
  clt c hc := by show c < n + R; omega
  rinj i j _ _ e := by have e : n + i = n + j := e; omega
  cinj i j _ _ e := e
  dis i c _ hc e := by have e : n + i = c := e; omega
  sur v hv := by
    by_cases h : v < n
    · exact .inr ⟨v, h, rfl⟩
    · exact .inl ⟨v - n, by omega, by show n + (v - n) = v; omega⟩
  eqv x := Iff.rfl
  val i _ := (smQ_zero fun j _ => by show A i j * (0 : Rat) = 0; grind).symm
  nb c hc := by show (0 : Rat) = if c < n then 0 else _; rw [if_pos hc]
def itX (S : SX) : Nat → SX
  | 0 => S
  | t + 1 => match (itX S t).step with | some S' => S' | none => itX S t
/-- So many steps are all taken. -/
def runX (S : SX) (t : Nat) : Prop := ∀ s, s < t → (itX S s).step ≠ none
section
variable {A : Nat → Nat → Rat} {n R : Nat} {S : SX}
theorem step_mo {S S' : SX} (h : InvX A n R S) (hs : S.step = some S') : S'.mo = S.mo := by
  obtain ⟨r, c, _, _, rfl, _⟩ := h.stepd hs
  rfl
theorem itX_next {t : Nat} (h : (itX S t).step ≠ none) : (itX S t).step = some (itX S (t + 1)) := by
  cases e : (itX S t).step with
  | none => exact (h e).elim
  | some S' => show some S' = some (match (itX S t).step with | some S' => S' | none => itX S t); rw [e]
theorem itX_inv (h : InvX A n R S) : ∀ t, InvX A n R (itX S t) ∧ (itX S t).mo = S.mo
  | 0 => ⟨h, rfl⟩
  | t + 1 => by
    obtain ⟨h1, h2⟩ := itX_inv h t
    cases e : (itX S t).step with
    | none =>
      have e2 : itX S (t + 1) = itX S t := by show (match (itX S t).step with | some S' => S' | none => itX S t) = _; rw [e]
      rw [e2]; exact ⟨h1, h2⟩
    | some S' =>
      have e2 : itX S (t + 1) = S' := by show (match (itX S t).step with | some S' => S' | none => itX S t) = _; rw [e]
      rw [e2]
      obtain ⟨_, _, _, _, _, _, _, _, _, h3⟩ := h1.stepd e
      exact ⟨h3, (step_mo h1 e).trans h2⟩
open Classical in
theorem runX_lt (h : InvX A n R S) : ¬ runX S (2 ^ (n + R)) := by
  intro hr
  obtain ⟨f, hf⟩ : ∃ f : Nat → Nat, f = fun t => encD 2 (fun v => if (itX S t).bas v then 1 else 0) (n + R) := ⟨_, rfl⟩
  obtain ⟨i, j, h1, h2, h3⟩ := pigeon (2 ^ (n + R)) f fun t _ => by
    rw [hf]; exact encD_lt fun v _ => by
      show (if (itX S t).bas v then 1 else 0) < 2
      split <;> omega
  rw [hf] at h3
  have h4 := encD_inj (fun v _ => by
      show (if (itX S i).bas v then 1 else 0) < 2
      split <;> omega) (fun v _ => by
      show (if (itX S j).bas v then 1 else 0) < 2
      split <;> omega) h3
  refine bland (A := A) (n := n) (R := R) (fun t => itX S (i + t)) (j - i) (by omega) (fun t _ => (itX_inv h _).1) S.mo (fun t _ => (itX_inv h _).2) (fun t ht => itX_next (hr _ (by omega))) fun v => ?_
  show (itX S (i + 0)).bas v ↔ (itX S (i + (j - i))).bas v
  rw [Nat.add_zero, show i + (j - i) = j by omega]
  by_cases hv : v < n + R
  · have := h4 v hv
    by_cases c1 : (itX S i).bas v <;> by_cases c2 : (itX S j).bas v
    · exact ⟨fun _ => c2, fun _ => c1⟩
    · have this : (if (itX S i).bas v then 1 else 0) = (if (itX S j).bas v then 1 else 0) := this
      rw [if_pos c1, if_neg c2] at this; omega
    · have this : (if (itX S i).bas v then 1 else 0) = (if (itX S j).bas v then 1 else 0) := this
      rw [if_neg c1, if_pos c2] at this; omega
    · exact ⟨fun h => (c1 h).elim, fun h => (c2 h).elim⟩
  · have hno : ∀ t, ¬ (itX S t).bas v := fun t ⟨k, hk, e⟩ => by
      have hI := (itX_inv h t).1
      rw [hI.eR] at hk
      have := hI.rlt k hk
      omega
    exact ⟨fun h => (hno _ h).elim, fun h => (hno _ h).elim⟩
theorem runX_le (h : InvX A n R S) {t : Nat} (hr : runX S t) : t < 2 ^ (n + R) := by
  by_cases c : t < 2 ^ (n + R)
  · exact c
  · exact (runX_lt h fun s hs => hr s (by omega)).elim

/-! Where no column may: how often each form goes into the sum. -/
def outX (S : SX) (r : Nat) : Nat → Nat → Rat
  | 0 => fun v => if v = S.rw r - S.n then 1 else 0
  | c + 1 => if S.n ≤ S.cl c then fun v => if v = S.cl c - S.n then -(S.a r c) else outX S r c v else outX S r c
theorem smQ_upd {f g : Nat → Rat} {y : Rat} {k m : Nat} (hk : k < m) (h0 : f k = 0) : smQ (fun i => (if i = k then y else f i) * g i) m = smQ (fun i => f i * g i) m + y * g k := by
  rw [smQ_split hk (f := fun i => (if i = k then y else f i) * g i), smQ_split hk (f := fun i => f i * g i), h0]
  have : smQ (fun j => if j = k then 0 else (if j = k then y else f j) * g j) m = smQ (fun j => if j = k then 0 else f j * g j) m := smQ_congr fun j _ => by
    by_cases e : j = k
    · rw [if_pos e, if_pos e]
    · rw [if_neg e, if_neg e, if_neg e]
  rw [this, if_pos rfl]; grind
theorem outX_at (h : InvX A n R S) {r : Nat} (hr : r < R) (hrn : n ≤ S.rw r) : ∀ c, c ≤ n → (∀ v, v ≠ S.rw r - n → (∀ k, k < c → S.cl k ≠ n + v) → outX S r c v = 0) ∧
    ∀ g : Nat → Rat, smQ (fun i => outX S r c i * g i) R = g (S.rw r - n) + smQ (fun k => if n ≤ S.cl k then -(S.a r k) * g (S.cl k - n) else 0) c := by
  intro c
  induction c with
  | zero =>
    intro _
    refine ⟨fun v hv _ => ?_, fun g => ?_⟩
    · show (if v = S.rw r - S.n then (1 : Rat) else 0) = 0
      rw [h.en, if_neg hv]
    · have hlt := h.rlt r hr
      rw [smQ_single (c := S.rw r - n) (by omega) fun j _ hj => ?_]
      · show (if S.rw r - n = S.rw r - S.n then (1 : Rat) else 0) * _ = _
        rw [h.en, if_pos rfl]; show 1 * g _ = g _ + 0; grind
      · show (if j = S.rw r - S.n then (1 : Rat) else 0) * _ = _
        rw [h.en, if_neg hj]; grind
  | succ c ih =>
    intro hc
    obtain ⟨h1, h2⟩ := ih (by omega)
    by_cases e : n ≤ S.cl c
    · have e0 : outX S r (c + 1) = fun v => if v = S.cl c - n then -(S.a r c) else outX S r c v := by
        show (if S.n ≤ S.cl c then fun v => if v = S.cl c - S.n then -(S.a r c) else outX S r c v else outX S r c) = _
        rw [h.en, if_pos e]
      rw [e0]
      have hlt := h.clt c (by omega)
      have hz : outX S r c (S.cl c - n) = 0 := h1 _ (fun e2 => h.dis r c hr (by omega) (by omega)) fun k hk e2 => by
        have := h.cinj k c (by omega) (by omega) (by omega); omega
      refine ⟨fun v hv hk => ?_, fun g => ?_⟩
      · show (if v = S.cl c - n then _ else _) = _
        rw [if_neg (fun e2 => hk c (Nat.lt_succ_self c) (by omega))]
        exact h1 v hv fun k hk2 => hk k (by omega)
      · have := smQ_upd (f := outX S r c) (g := g) (y := -(S.a r c)) (k := S.cl c - n) (m := R) (by omega) hz
        rw [h2 g] at this
        rw [smQ, if_pos e]
        show smQ (fun i => (if i = S.cl c - n then -(S.a r c) else outX S r c i) * g i) R = _
        rw [this]; grind
    · have e0 : outX S r (c + 1) = outX S r c := by
        show (if S.n ≤ S.cl c then fun v => if v = S.cl c - S.n then -(S.a r c) else outX S r c v else outX S r c) = _
        rw [h.en, if_neg e]
      rw [e0]
      refine ⟨fun v hv hk => h1 v hv fun k hk2 => hk k (by omega), fun g => ?_⟩
      rw [h2 g, smQ, if_neg e]; grind
theorem outX_nonneg (h : InvX A n R S) {r : Nat} (ha : ∀ c, c < n → S.a r c ≤ 0) : ∀ c, c ≤ n → ∀ v, 0 ≤ outX S r c v
  | 0, _, v => by
    show (0 : Rat) ≤ if v = S.rw r - S.n then 1 else 0
    split <;> grind
  | c + 1, hc, v => by
    have ih := outX_nonneg h ha c (by omega)
    show (0 : Rat) ≤ (if S.n ≤ S.cl c then fun v => if v = S.cl c - S.n then -(S.a r c) else outX S r c v else outX S r c) v
    split
    · show (0 : Rat) ≤ if v = S.cl c - S.n then -(S.a r c) else outX S r c v
      split
      · have := ha c (by omega); grind
      · exact ih v
    · exact ih v
theorem farkasX (h : InvX A n R S) {r : Nat} (hb : S.broken = some r) (hc : S.column r = none) :
    (∀ v, 0 ≤ outX S r n v) ∧ (∀ j, j < n → smQ (fun i => outX S r n i * A i j) R = 0) ∧ smQ (fun i => outX S r n i * S.mo i) R < 0 := by
  obtain ⟨hr, hrn, hov, _⟩ := h.broken hb
  have hnc := h.nocol hc
  obtain ⟨_, h2⟩ := outX_at h hr hrn n (Nat.le_refl _)
  have hterm : ∀ (g x : Nat → Rat), (∀ i, n ≤ i → i < n + R → x i = g (i - n)) → smQ (fun k => if n ≤ S.cl k then -(S.a r k) * g (S.cl k - n) else 0) n = -1 * smQ (fun k => S.a r k * x (S.cl k)) n := fun g x hx => by
    rw [← smQ_mul]
    refine smQ_congr fun k hk => ?_
    split
    · rename_i hn
      rw [hx _ hn (h.clt k hk)]; grind
    · rename_i hn
      rw [(hnc k hk).2 (by omega)]; grind
  refine ⟨outX_nonneg h (fun c hc => (hnc c hc).1) n (Nat.le_refl _), fun j hj => ?_, ?_⟩
  · obtain ⟨x, hx⟩ : ∃ x : Nat → Rat, x = fun v => if v < n then (if v = j then 1 else 0) else A (v - n) j := ⟨_, rfl⟩
    have hxn : ∀ i, n ≤ i → x i = A (i - n) j := fun i hi => by rw [hx]; show (if i < n then _ else _) = _; rw [if_neg (by omega)]
    have hxl : ∀ i, i < n → x i = if i = j then 1 else 0 := fun i hi => by rw [hx]; show (if i < n then _ else _) = _; rw [if_pos hi]
    have hcon : ConX A n R x := fun i hi => by
      rw [hxn _ (by omega), smQ_single (c := j) hj fun k hk hkj => by rw [hxl k hk, if_neg hkj]; grind, hxl j hj, if_pos rfl, show n + i - n = i by omega]; grind
    have hrow := (h.eqv x).1 hcon r hr
    rw [h2, hterm (fun i => A i j) x fun i hi _ => hxn i hi, ← hrow, hxn _ hrn]; grind
  · have hrow := (h.eqv S.va).1 h.val r hr
    have hk : smQ (fun k => if n ≤ S.cl k then -(S.a r k) * S.mo (S.cl k - n) else 0) n = -1 * smQ (fun k => S.a r k * S.va (S.cl k)) n := by
      rw [← smQ_mul]
      refine smQ_congr fun k hk => ?_
      have hv := h.nb k hk
      split
      · rename_i hn
        rw [hv, if_neg (by omega)]; grind
      · rename_i hn
        rw [(hnc k hk).2 (by omega)]; grind
    rw [h2, hk, ← hrow]
    rw [ov_ge h hrn] at hov
    grind
/-! Sizes. -/
theorem smQ_front {f : Nat → Rat} : ∀ {n : Nat}, smQ f (n + 1) = f 0 + smQ (fun i => f (i + 1)) n
  | 0 => by show (0 : Rat) + f 0 = f 0 + 0; grind
  | n + 1 => by rw [smQ, smQ_front, smQ]; grind
theorem smI_cast {f : Nat → Int} : ∀ {n : Nat}, ((smI f n : Int) : Rat) = smQ (fun i => (f i : Rat)) n
  | 0 => rfl
  | n + 1 => by rw [smI, smQ, ← smI_cast, Rat.intCast_add]
theorem quot_small {q : Rat} {y0 y1 : Int} (h : (y0 : Rat) * q + (y1 : Rat) = 0) (h0 : y0 ≠ 0) : q.num.natAbs ≤ y1.natAbs ∧ q.den ≤ y0.natAbs := by
  have hd : (q.den : Rat) ≠ 0 := by
    have := q.den_nz
    intro e
    have : ((q.den : Int) : Rat) = ((0 : Int) : Rat) := by rw [Rat.intCast_natCast]; exact e
    have := Rat.intCast_inj.1 this
    omega
  have hq : q * (q.den : Rat) = (q.num : Rat) := by
    have h1 : q = (q.num : Rat) / (q.den : Rat) := by
      have := (Rat.num_divInt_den q).symm
      rw [Rat.divInt_eq_div, Rat.intCast_natCast] at this; exact this
    have h2 : q * (q.den : Rat) = (q.num : Rat) / (q.den : Rat) * (q.den : Rat) := by rw [← h1]
    rw [h2, Rat.div_def, Rat.mul_assoc, Rat.inv_mul_cancel _ hd, Rat.mul_one]
  have h1 : ((y0 * q.num : Int) : Rat) = ((-(y1 * (q.den : Int)) : Int) : Rat) := by
    rw [Rat.intCast_mul, Rat.intCast_neg, Rat.intCast_mul, Rat.intCast_natCast, ← hq]
    grind
  have h2 : y0 * q.num = -(y1 * (q.den : Int)) := Rat.intCast_inj.1 h1
  have h3 : y0.natAbs * q.num.natAbs = y1.natAbs * q.den := by
    have := congrArg Int.natAbs h2
    rw [Int.natAbs_mul, Int.natAbs_neg, Int.natAbs_mul, Int.natAbs_natCast] at this
    exact this
  have h4 : q.den ∣ y0.natAbs := by
    have : q.den ∣ y0.natAbs * q.num.natAbs := ⟨y1.natAbs, by rw [h3, Nat.mul_comm]⟩
    exact Nat.Coprime.dvd_of_dvd_mul_right q.reduced.symm this
  have h5 : q.den ≤ y0.natAbs := Nat.le_of_dvd (by omega) h4
  refine ⟨?_, h5⟩
  obtain ⟨k, hk⟩ := h4
  have hk0 : 0 < k := by
    rcases Nat.eq_zero_or_pos k with e | e
    · subst e; omega
    · exact e
  have hdp := q.den_pos
  have h6 : q.den * (k * q.num.natAbs) = q.den * y1.natAbs := by rw [← Nat.mul_assoc, ← hk, h3, Nat.mul_comm]
  have h7 := Nat.eq_of_mul_eq_mul_left hdp h6
  rw [← h7]
  exact Nat.le_mul_of_pos_left _ hk0
def vecX (Ai : Nat → Nat → Int) (n v j : Nat) : Int := if v < n then (if v = j then 1 else 0) else Ai (v - n) j
theorem relX (Ai : Nat → Nat → Int) {B : Nat} (hB : 1 ≤ B) (hAB : ∀ i j, i < R → j < n → (Ai i j).natAbs ≤ B) (h : InvX (fun i j => (Ai i j : Rat)) n R S) {r : Nat} (hr : r < R) :
    ∃ y : Nat → Int, y 0 ≠ 0 ∧ (∀ i, i < n + 1 → (y i).natAbs ≤ (2 * ((n + 1) * B) + 1) ^ n) ∧ (∀ c, c < n → (y 0 : Rat) * S.a r c + (y (c + 1) : Rat) = 0) ∧ ∀ x, ConX (fun i j => (Ai i j : Rat)) n R x → (y 0 : Rat) * x (S.rw r) + smQ (fun i => (y (i + 1) : Rat) * x (S.cl i)) n = 0 := by
  obtain ⟨vs, hvs⟩ : ∃ vs : Nat → Nat, vs = fun i => if i = 0 then S.rw r else S.cl (i - 1) := ⟨_, rfl⟩
  have hvs0 : vs 0 = S.rw r := by rw [hvs]; rfl
  have hvsS : ∀ i, vs (i + 1) = S.cl i := fun i => by rw [hvs]; rfl
  have hvl : ∀ i, i < n + 1 → vs i < n + R := fun i hi => by
    cases i with
    | zero => rw [hvs0]; exact h.rlt r hr
    | succ i => rw [hvsS]; exact h.clt i (by omega)
  obtain ⟨y, ⟨i0, hi0, hy0⟩, hyb, hy⟩ := siegel n B (fun i j => vecX Ai n (vs i) j) fun i j hi hj => by
    show (vecX Ai n (vs i) j).natAbs ≤ B
    unfold vecX
    split
    · split
      · exact hB
      · exact Nat.zero_le _
    · exact hAB _ _ (by have := hvl i hi; omega) hj
  have hval : ∀ x, ConX (fun i j => (Ai i j : Rat)) n R x → ∀ v, v < n + R → x v = smQ (fun j => (vecX Ai n v j : Rat) * x j) n := fun x hx v hv => by
    by_cases e : v < n
    · rw [smQ_single (c := v) e fun j _ hj => by unfold vecX; rw [if_pos e, if_neg (fun e => hj e.symm)]; exact Rat.zero_mul _]
      unfold vecX; rw [if_pos e, if_pos rfl]; exact (Rat.one_mul _).symm
    · have := hx (v - n) (by omega)
      rw [show n + (v - n) = v by omega] at this
      rw [this]
      exact smQ_congr fun j _ => by unfold vecX; rw [if_neg e]
  have hrel : ∀ x, ConX (fun i j => (Ai i j : Rat)) n R x → (y 0 : Rat) * x (S.rw r) + smQ (fun i => (y (i + 1) : Rat) * x (S.cl i)) n = 0 := fun x hx => by
    have e1 : smQ (fun i => (y i : Rat) * x (vs i)) (n + 1) = 0 := by
      rw [smQ_congr (g := fun i => smQ (fun j => ((y i * vecX Ai n (vs i) j : Int) : Rat) * x j) n) fun i hi => by
        rw [hval x hx _ (hvl i hi), ← smQ_mul]
        exact smQ_congr fun j _ => by rw [Rat.intCast_mul]; grind]
      rw [smQ_swap]
      refine smQ_zero fun j hj => ?_
      have := hy j hj
      have e2 : smQ (fun i => ((y i * vecX Ai n (vs i) j : Int) : Rat) * x j) (n + 1) = x j * smQ (fun i => ((y i * vecX Ai n (vs i) j : Int) : Rat)) (n + 1) := by
        rw [← smQ_mul]; exact smQ_congr fun i _ => Rat.mul_comm _ _
      rw [e2, ← smI_cast, this]; exact Rat.mul_zero _
    rw [smQ_front, hvs0] at e1
    rw [← e1]
    congr 1
    exact smQ_congr fun i _ => by rw [hvsS]
  have hone : ∀ c, c < n → (y 0 : Rat) * S.a r c + (y (c + 1) : Rat) = 0 := fun c hc => by
    obtain ⟨x, hx⟩ : ∃ x : Nat → Rat, x = fun v => (if v = S.cl c then 1 else 0) + smQ (fun i => if S.rw i = v then S.a i c else 0) R := ⟨_, rfl⟩
    have hxc : ∀ j, j < n → x (S.cl j) = if j = c then 1 else 0 := fun j hj => by
      rw [hx]
      show (if S.cl j = S.cl c then (1 : Rat) else 0) + smQ (fun i => if S.rw i = S.cl j then S.a i c else 0) R = _
      rw [smQ_zero fun i hi => if_neg (h.dis i j hi hj), Rat.add_zero]
      by_cases e : j = c
      · rw [if_pos e, if_pos (by rw [e])]
      · rw [if_neg e, if_neg (fun e2 => e (h.cinj _ _ hj hc e2))]
    have hxr : ∀ i, i < R → x (S.rw i) = S.a i c := fun i hi => by
      rw [hx]
      show (if S.rw i = S.cl c then (1 : Rat) else 0) + smQ (fun k => if S.rw k = S.rw i then S.a k c else 0) R = _
      rw [if_neg (h.dis i c hi hc), Rat.zero_add, smQ_single (c := i) hi fun k hk hki => if_neg (fun e => hki (h.rinj _ _ hk hi e)), if_pos rfl]
    have hcon : ConX (fun i j => (Ai i j : Rat)) n R x := (h.eqv x).2 fun i hi => by
      rw [hxr i hi, smQ_single (c := c) hc fun j hj hjc => by rw [hxc j hj, if_neg hjc]; exact Rat.mul_zero _, hxc c hc, if_pos rfl]
      exact (Rat.mul_one _).symm
    have := hrel x hcon
    rw [hxr r hr, smQ_single (c := c) hc fun j hj hjc => by rw [hxc j hj, if_neg hjc]; exact Rat.mul_zero _, hxc c hc, if_pos rfl, Rat.mul_one] at this
    exact this
  have hy00 : y 0 ≠ 0 := by
    intro e
    cases i0 with
    | zero => exact hy0 e
    | succ i =>
      have := hone i (by omega)
      rw [e] at this
      have h2 : ((y (i + 1) : Int) : Rat) = ((0 : Int) : Rat) := by
        have h3 : ((0 : Int) : Rat) = 0 := rfl
        rw [h3] at this ⊢
        rw [Rat.zero_mul, Rat.zero_add] at this; exact this
      exact hy0 (Rat.intCast_inj.1 h2)
  exact ⟨y, hy00, hyb, hone, hrel⟩
theorem sizeX (Ai : Nat → Nat → Int) {B : Nat} (hB : 1 ≤ B) (hAB : ∀ i j, i < R → j < n → (Ai i j).natAbs ≤ B) (h : InvX (fun i j => (Ai i j : Rat)) n R S) {r c : Nat} (hr : r < R) (hc : c < n) :
    (S.a r c).num.natAbs ≤ (2 * ((n + 1) * B) + 1) ^ n ∧ (S.a r c).den ≤ (2 * ((n + 1) * B) + 1) ^ n := by
  obtain ⟨y, hy00, hyb, hone, _⟩ := relX Ai hB hAB h hr
  obtain ⟨k1, k2⟩ := quot_small (hone c hc) hy00
  have b0 := hyb 0 (by omega)
  have b1 := hyb (c + 1) (by omega)
  omega
theorem smI_le {f : Nat → Int} {M : Nat} : ∀ {n : Nat}, (∀ i, i < n → (f i).natAbs ≤ M) → (smI f n).natAbs ≤ n * M
  | 0, _ => Nat.zero_le _
  | n + 1, h => by
    have h1 := smI_le (n := n) fun i hi => h i (by omega)
    have h2 := h n (by omega)
    have h3 := Int.natAbs_add_le (smI f n) (f n)
    show (smI f n + f n).natAbs ≤ _
    rw [Nat.succ_mul]; omega
/-- The values are small too. -/
theorem sizeV (Ai : Nat → Nat → Int) {B C : Nat} (hB : 1 ≤ B) (hAB : ∀ i j, i < R → j < n → (Ai i j).natAbs ≤ B) (h : InvX (fun i j => (Ai i j : Rat)) n R S) (b : Nat → Int) (hb : ∀ c, c < n → S.va (S.cl c) = (b c : Rat) ∧ (b c).natAbs ≤ C) {r : Nat} (hr : r < R) :
    (S.va (S.rw r)).num.natAbs ≤ n * ((2 * ((n + 1) * B) + 1) ^ n * C) ∧ (S.va (S.rw r)).den ≤ (2 * ((n + 1) * B) + 1) ^ n := by
  obtain ⟨y, hy00, hyb, _, hrel⟩ := relX Ai hB hAB h hr
  have h1 := hrel S.va h.val
  rw [smQ_congr (g := fun i => ((y (i + 1) * b i : Int) : Rat)) fun i hi => by rw [(hb i hi).1, Rat.intCast_mul], ← smI_cast] at h1
  obtain ⟨k1, k2⟩ := quot_small h1 hy00
  have b0 := hyb 0 (by omega)
  refine ⟨Nat.le_trans k1 (smI_le fun i hi => ?_), Nat.le_trans k2 b0⟩
  rw [Int.natAbs_mul]
  exact Nat.mul_le_mul (hyb _ (by omega)) (hb i hi).2
end
end Go.Abs
