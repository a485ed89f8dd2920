/- At every input the call answers true and leaves its arguments as they were; no conditions. -/
import Derived.Test.YtjmbhknhiakkpaaNz
set_option linter.unusedSimpArgs false
set_option linter.unusedVariables false
namespace Go.Abs
/-! ### The form is the only one -/
/-- The columns of the one are sums of columns of the other. -/
def Cols (R n : Nat) (g g' : Nat → Nat → Int) : Prop := ∃ w : Nat → Nat → Int, ∀ r, r < R → ∀ c, c < n → g r c = smI (fun j => g' r j * w j c) n
theorem Cols.trans {R n : Nat} {g g' g2 : Nat → Nat → Int} (h1 : Cols R n g g') (h2 : Cols R n g' g2) : Cols R n g g2 := by
  obtain ⟨w, h1⟩ := h1
  obtain ⟨w', h2⟩ := h2
  refine ⟨fun l c => smI (fun j => w' l j * w j c) n, fun r hr c hc => ?_⟩
  rw [h1 r hr c hc]
  have e : ∀ j, j < n → g' r j * w j c = smI (fun l => g2 r l * w' l j * w j c) n := fun j hj => by
    rw [h2 r hr j hj, Int.mul_comm, ← smI_mul]
    exact smI_congr fun l _ => Int.mul_comm _ _
  rw [smI_congr e, smI_swap]
  refine smI_congr fun l _ => ?_
  rw [← smI_mul]
  exact smI_congr fun j _ => Int.mul_assoc _ _ _
theorem Cols.refl {R n : Nat} (g : Nat → Nat → Int) : Cols R n g g :=
  ⟨fun j c => if j = c then 1 else 0, fun r _ c hc => by rw [smI_single (f := fun j => g r j * if j = c then 1 else 0) hc fun j _ hj => by rw [if_neg hj, Int.mul_zero], if_pos rfl, Int.mul_one]⟩
theorem Cols.congr {R n : Nat} {g g' g2 : Nat → Nat → Int} (h : Cols R n g g') (e : ∀ r c, r < R → c < n → g2 r c = g r c) : Cols R n g2 g' := by
  obtain ⟨w, h⟩ := h
  exact ⟨w, fun r hr c hc => by rw [e r c hr hc]; exact h r hr c hc⟩
theorem InvH.cols {a : Nat → Nat → Int} {n R : Nat} {S : HX} (h : InvH a n R S) : Cols R n S.h a := ⟨S.u, h.hau⟩
theorem InvH.cols' {a : Nat → Nat → Int} {n R : Nat} {S : HX} (h : InvH a n R S) : Cols R n a S.h := by
  refine ⟨S.v, fun r hr c hc => ?_⟩
  have e : ∀ j, j < n → S.h r j * S.v j c = smI (fun l => a r l * S.u l j * S.v j c) n := fun j hj => by
    rw [h.hau r hr j hj, Int.mul_comm, ← smI_mul]
    exact smI_congr fun l _ => Int.mul_comm _ _
  rw [smI_congr e, smI_swap]
  have e2 : ∀ l, l < n → smI (fun j => a r l * S.u l j * S.v j c) n = a r l * (if l = c then 1 else 0) := fun l hl => by
    rw [← h.uv l c hl hc, ← smI_mul]
    exact smI_congr fun j _ => Int.mul_assoc _ _ _
  rw [smI_congr e2, smI_single hc fun j _ hj => by rw [if_neg hj, Int.mul_zero], if_pos rfl, Int.mul_one]
section
variable {g g' : Nat → Nat → Int} {R n : Nat} {k k' : Nat → Nat}
theorem Shp.step (h : Shp g R n k) {i : Nat} (hi : i < R) : (k (i + 1) = k i ∧ (k i < n → g i (k i) = 0)) ∨ (k i < n ∧ 0 < g i (k i) ∧ k (i + 1) = k i + 1) := by
  by_cases c : n ≤ k i
  · exact .inl ⟨h.out i hi c, fun h => by omega⟩
  · by_cases c2 : g i (k i) = 0
    · exact .inl ⟨h.zero i hi (by omega) c2, fun _ => c2⟩
    · have h3 := h.nonneg i hi (by omega)
      exact .inr ⟨by omega, by omega, (h.piv i hi (by omega) (by omega)).1⟩
theorem Shp.mono (h : Shp g R n k) {i : Nat} : ∀ {j : Nat}, i ≤ j → j ≤ R → k i ≤ k j
  | 0, h1, _ => by obtain rfl : i = 0 := by omega
                   exact Nat.le_refl _
  | j + 1, h1, h2 => by
    by_cases c : i = j + 1
    · rw [c]; exact Nat.le_refl _
    · have := h.mono (i := i) (j := j) (by omega) (by omega)
      rcases h.step (i := j) (by omega) with ⟨e, _⟩ | ⟨_, _, e⟩ <;> omega
theorem Shp.sum (h : Shp g R n k) {x : Nat → Int} {r : Nat} (hr : r < R) (hx : ∀ j, j < k r → x j = 0) : smI (fun j => g r j * x j) n = if k r < n then g r (k r) * x (k r) else 0 := by
  by_cases c : k r < n
  · rw [if_pos c]
    refine smI_single (f := fun j => g r j * x j) c fun j hj hne => ?_
    show g r j * x j = 0
    rcases Nat.lt_or_ge j (k r) with h1 | h1
    · rw [hx j h1, Int.mul_zero]
    · rw [h.right r j hr (by omega) hj, Int.zero_mul]
  · rw [if_neg c]
    exact smI_zero fun j hj => by rw [hx j (by omega), Int.mul_zero]
theorem Shp.low (h : Shp g R n k) {x : Nat → Int} {r : Nat} (hr : r < R) (h0 : ∀ i, i < r → smI (fun j => g i j * x j) n = 0) : ∀ i, i ≤ r → ∀ j, j < k i → x j = 0
  | 0, _, j, hj => by rw [h.k0] at hj; omega
  | i + 1, hi, j, hj => by
    have ih := h.low hr h0 i (by omega)
    rcases h.step (i := i) (by omega) with ⟨e, _⟩ | ⟨h1, h2, e⟩
    · exact ih j (by omega)
    · by_cases c : j = k i
      · have h3 := h0 i (by omega)
        rw [h.sum (by omega) ih, if_pos h1] at h3
        rw [c]
        rcases Int.mul_eq_zero.1 h3 with h4 | h4
        · omega
        · exact h4
      · exact ih j (by omega)
/-- What stands on the stair. -/
def stH (g : Nat → Nat → Int) (n : Nat) (k : Nat → Nat) (r : Nat) : Int := if k r < n then g r (k r) else 0
theorem Shp.dvd (h : Shp g R n k) {x : Nat → Int} {r : Nat} (hr : r < R) (h0 : ∀ i, i < r → smI (fun j => g i j * x j) n = 0) : stH g n k r ∣ smI (fun j => g r j * x j) n := by
  rw [h.sum hr (h.low hr h0 r (Nat.le_refl _))]
  unfold stH
  split
  · exact Int.dvd_mul_right _ _
  · exact Int.dvd_refl _
theorem Shp.above (h : Shp g R n k) {r : Nat} (hr : r < R) (hk : k r < n) {i : Nat} (hi : i < r) : g i (k r) = 0 := by
  have h1 := h.mono (i := i + 1) (j := r) (by omega) (by omega)
  rcases h.step (i := i) (by omega) with ⟨e, h2⟩ | ⟨_, _, e⟩
  · rcases Nat.lt_or_ge (k i) (k r) with h3 | h3
    · exact h.right i _ (by omega) h3 hk
    · have : k i = k r := by omega
      rw [← this]; exact h2 (by omega)
  · exact h.right i _ (by omega) (by omega) hk
theorem Shp.st_nonneg (h : Shp g R n k) {r : Nat} (hr : r < R) : 0 ≤ stH g n k r := by
  unfold stH; split
  · exact h.nonneg r hr ‹_›
  · exact Int.le_refl _
theorem Shp.st_dvd (h : Shp g R n k) (h' : Shp g' R n k') (hc : Cols R n g g') {r : Nat} (hr : r < R) : stH g' n k' r ∣ stH g n k r := by
  by_cases c : k r < n
  · obtain ⟨w, hw⟩ := hc
    have e : stH g n k r = smI (fun j => g' r j * w j (k r)) n := by unfold stH; rw [if_pos c]; exact hw r hr _ c
    rw [e]
    exact h'.dvd hr fun i hi => by rw [← hw i (by omega) _ c]; exact h.above hr c hi
  · unfold stH; rw [if_neg c]; exact Int.dvd_zero _
theorem dvd_anti {x y : Int} (hx : 0 ≤ x) (hy : 0 ≤ y) (h1 : x ∣ y) (h2 : y ∣ x) : x = y := by
  have := Nat.dvd_antisymm (Int.natAbs_dvd_natAbs.2 h1) (Int.natAbs_dvd_natAbs.2 h2)
  omega
theorem dvd_small {p x y : Int} (hx : 0 ≤ x) (hxp : x < p) (hy : 0 ≤ y) (hyp : y < p) (h : p ∣ x - y) : x = y := by
  have := Int.eq_zero_of_dvd_of_natAbs_lt_natAbs h (by omega)
  omega
/-- Two forms of one matrix are alike. -/
theorem shp_uniq (h : Shp g R n k) (h' : Shp g' R n k') (hc : Cols R n g g') (hc' : Cols R n g' g) : ∀ r, r ≤ R → k r = k' r ∧ ∀ i c, i < r → c < n → g i c = g' i c
  | 0, _ => ⟨by rw [h.k0, h'.k0], fun i c hi => by omega⟩
  | r + 1, hr => by
    obtain ⟨ih1, ih2⟩ := shp_uniq h h' hc hc' r (by omega)
    have hr' : r < R := by omega
    have hp := dvd_anti (h'.st_nonneg hr') (h.st_nonneg hr') (h.st_dvd h' hc hr') (h'.st_dvd h hc' hr')
    have hdv : ∀ c, c < n → stH g' n k' r ∣ g r c - g' r c := fun c hcn => by
      obtain ⟨w, hw⟩ := hc
      have e : ∀ i, i < R → g i c - g' i c = smI (fun j => g' i j * (w j c - if j = c then 1 else 0)) n := fun i hi => by
        have e1 : g' i c = smI (fun j => g' i j * if j = c then 1 else 0) n := by
          rw [smI_single (f := fun j => g' i j * if j = c then 1 else 0) hcn fun j _ hj => by rw [if_neg hj, Int.mul_zero], if_pos rfl, Int.mul_one]
        rw [hw i hi c hcn]
        conv => lhs; rhs; rw [e1]
        rw [← smI_sub]
        exact smI_congr fun j _ => (Int.mul_sub _ _ _).symm
      rw [e r hr']
      exact h'.dvd hr' fun i hi => by rw [← e i (by omega), ih2 i c hi hcn]; omega
    refine ⟨?_, fun i c hi hcn => ?_⟩
    · rcases h.step hr' with ⟨e1, h1⟩ | ⟨h1, h2, e1⟩ <;> rcases h'.step hr' with ⟨e2, h3⟩ | ⟨h3, h4, e2⟩
      · omega
      · unfold stH at hp
        rw [if_pos h3, if_pos (by omega), h1 (by omega)] at hp
        omega
      · unfold stH at hp
        rw [if_pos h1, if_pos (by omega), h3 (by omega)] at hp
        omega
      · omega
    · by_cases e : i = r
      · rw [e]
        have hd := hdv c hcn
        by_cases ck : k r < n
        · have ck' : k' r < n := by omega
          rcases Nat.lt_trichotomy c (k r) with h1 | h1 | h1
          · rcases h.step hr' with ⟨_, h2⟩ | ⟨_, h2, _⟩
            · have hz : stH g' n k' r = 0 := by rw [hp]; unfold stH; rw [if_pos ck]; exact h2 ck
              rw [hz] at hd
              have := Int.zero_dvd.1 hd
              omega
            · have h3 := (h.piv r hr' ck h2).2 c h1
              have e1 : stH g n k r = g r (k r) := by unfold stH; rw [if_pos ck]
              have e2 : stH g' n k' r = g' r (k' r) := by unfold stH; rw [if_pos ck']
              have h4 := (h'.piv r hr' ck' (by rw [← e2, hp, e1]; exact h2)).2 c (by omega)
              exact dvd_small h3.1 (by rw [← e1, ← hp] at h3; exact h3.2) h4.1 (by rw [← e2] at h4; exact h4.2) hd
          · have e1 : stH g n k r = g r c := by unfold stH; rw [if_pos ck, h1]
            have e2 : stH g' n k' r = g' r c := by unfold stH; rw [if_pos ck', h1, ih1]
            rw [← e1, ← e2, hp]
          · rw [h.right r c hr' h1 hcn, h'.right r c hr' (by omega) hcn]
        · have hz : stH g' n k' r = 0 := by rw [hp]; unfold stH; rw [if_neg ck]
          rw [hz] at hd
          have := Int.zero_dvd.1 hd
          omega
      · exact ih2 i c (by omega) hcn
end
/-- A multiple of one column is laid upon another. -/
def laidC (a : Nat → Nat → Int) (x y : Nat) (q : Int) (r c : Nat) : Int := if c = x then a r x + q * a r y else a r c
theorem cols_laid {a : Nat → Nat → Int} {R n x y : Nat} {q : Int} (hx : x < n) (hy : y < n) : Cols R n (laidC a x y q) a := by
  refine ⟨fun j c => (if j = c then 1 else 0) + if c = x ∧ j = y then q else 0, fun r hr c hc => ?_⟩
  rw [smI_congr (g := fun j => (a r j * if j = c then 1 else 0) + (a r j * if c = x ∧ j = y then q else 0)) fun j _ => Int.mul_add _ _ _, smI_add,
    smI_single (f := fun j => a r j * if j = c then 1 else 0) hc fun j _ hj => by rw [if_neg hj, Int.mul_zero],
    smI_single (f := fun j => a r j * if c = x ∧ j = y then q else 0) hy fun j _ hj => by rw [if_neg fun h => hj h.2, Int.mul_zero], if_pos rfl]
  unfold laidC
  by_cases e : c = x
  · rw [if_pos e, if_pos ⟨e, rfl⟩, e, Int.mul_comm (a r y)]; omega
  · rw [if_neg e, if_neg fun h => e h.1]; omega
theorem laid_back {a : Nat → Nat → Int} {x y : Nat} {q : Int} (hne : x ≠ y) (r c : Nat) : laidC (laidC a x y q) x y (-q) r c = a r c := by
  unfold laidC
  rw [if_pos rfl, if_neg (show ¬ y = x by omega)]
  by_cases e : c = x
  · rw [if_pos e, e, Int.neg_mul]; omega
  · rw [if_neg e, if_neg e]
end Go.Abs
namespace Go.Abs
/-! ### One row -/
def gl (z : Nat → Int) : Nat → Int
  | 0 => 0
  | i + 1 => (Int.gcd (gl z i) (z i) : Int)
theorem gl_nonneg {z : Nat → Int} : ∀ i, 0 ≤ gl z i
  | 0 => Int.le_refl _
  | i + 1 => Int.natCast_nonneg _
theorem gl_le {z : Nat → Int} {M : Nat} (h : ∀ i, (z i).natAbs ≤ M) : ∀ i, (gl z i).natAbs ≤ M
  | 0 => Nat.zero_le _
  | i + 1 => by
    show ((Int.gcd (gl z i) (z i) : Nat) : Int).natAbs ≤ M
    rw [Int.natAbs_natCast]
    by_cases c : z i = 0
    · rw [c, Int.gcd_zero_right]; exact gl_le h i
    · have h1 : Int.gcd (gl z i) (z i) ∣ (z i).natAbs := Nat.gcd_dvd_right _ _
      exact Nat.le_trans (Nat.le_of_dvd (by omega) h1) (h i)
theorem gl_dvd {z : Nat → Int} : ∀ n i, i < n → gl z n ∣ z i
  | n + 1, i, h => by
    have h1 : gl z (n + 1) ∣ gl z n := Int.gcd_dvd_left _ _
    by_cases c : i = n
    · rw [c]; exact Int.gcd_dvd_right _ _
    · exact Int.dvd_trans h1 (gl_dvd n i (by omega))
theorem dvd_gl {z : Nat → Int} {d : Int} : ∀ n, (∀ i, i < n → d ∣ z i) → d ∣ gl z n
  | 0, _ => Int.dvd_zero _
  | n + 1, h => Int.dvd_coe_gcd (dvd_gl n fun i hi => h i (by omega)) (h n (by omega))
theorem gl_congr {z z' : Nat → Int} : ∀ {n : Nat}, (∀ i, i < n → z i = z' i) → gl z n = gl z' n
  | 0, _ => rfl
  | n + 1, h => by
    show ((Int.gcd (gl z n) (z n) : Nat) : Int) = (Int.gcd (gl z' n) (z' n) : Nat)
    rw [gl_congr fun i hi => h i (by omega), h n (by omega)]
theorem smI_dvd {d : Int} {f : Nat → Int} : ∀ {n : Nat}, (∀ i, i < n → d ∣ f i) → d ∣ smI f n
  | 0, _ => Int.dvd_zero _
  | n + 1, h => by rw [smI]; exact Int.dvd_add (smI_dvd fun i hi => h i (by omega)) (h n (by omega))
theorem row_form {g a : Nat → Nat → Int} {n : Nat} {k : Nat → Nat} (hn : 0 < n) (h : Shp g 1 n k) (h1 : Cols 1 n g a) (h2 : Cols 1 n a g) : g 0 0 = gl (a 0) n ∧ ∀ c, 0 < c → c < n → g 0 c = 0 := by
  have h0 := h.k0
  have hr : ∀ c, 0 < c → c < n → g 0 c = 0 := fun c h1 h2 => h.right 0 c (by omega) (by omega) h2
  refine ⟨dvd_anti ?_ (gl_nonneg _) ?_ ?_, hr⟩
  · have := h.nonneg 0 (by omega) (by omega)
    rwa [h0] at this
  · obtain ⟨w, hw⟩ := h2
    refine dvd_gl n fun i hi => ?_
    rw [hw 0 (by omega) i hi, smI_single (f := fun j => g 0 j * w j i) hn fun j hj hne => by rw [hr j (by omega) hj, Int.zero_mul]]
    exact Int.dvd_mul_right _ _
  · obtain ⟨w, hw⟩ := h1
    rw [hw 0 (by omega) 0 hn]
    exact smI_dvd fun i hi => Int.dvd_mul_of_dvd_left (gl_dvd n i hi)
end Go.Abs
namespace Go.Abs
/-! ### What is solved solves; what can't be solved has no solution -/
/-- Which rows have a pivot. -/
structure Piv (S : HX) (n R : Nat) (kk : Nat → Nat) (pv : Nat → Int) : Prop where
  shp : Shp S.h R n kk
  row : ∀ r, r < R → (pv r < 0 ∧ kk (r + 1) = kk r ∧ (kk r < n → S.h r (kk r) = 0)) ∨ (pv r = (kk r : Int) ∧ kk r < n ∧ 0 < S.h r (kk r) ∧ kk (r + 1) = kk r + 1)
theorem made_piv {a : Nat → Nat → Int} {n R : Nat} (hn : n ≤ 6) (ha : ∀ r c, r < R → c < n → (a r c).natAbs ≤ 2 ^ 96) : Piv (madeS a n R R).1 n R (fun r => (madeS a n R r).2) (pvS a n R) := by
  have hs := made_shp hn ha
  refine ⟨hs, fun r hr => ?_⟩
  have e : (madeS a n R (r + 1)).2 = if (rowH (madeS a n R r).1 r (madeS a n R r).2).2 then (madeS a n R r).2 + 1 else (madeS a n R r).2 := rfl
  by_cases c : (rowH (madeS a n R r).1 r (madeS a n R r).2).2 = true
  · rw [if_pos c] at e
    have hp : pvS a n R r = ((madeS a n R r).2 : Int) := by unfold pvS; rw [if_pos c]
    rcases hs.step hr with ⟨h1, _⟩ | ⟨h1, h2, h3⟩
    · have h1 : (madeS a n R (r + 1)).2 = (madeS a n R r).2 := h1
      omega
    · exact .inr ⟨hp, h1, h2, h3⟩
  · rw [if_neg c] at e
    have hp : pvS a n R r = -1 := by unfold pvS; rw [if_neg c]
    rcases hs.step hr with ⟨h1, h2⟩ | ⟨_, _, h3⟩
    · exact .inl ⟨by rw [hp]; decide, h1, h2⟩
    · have h3 : (madeS a n R (r + 1)).2 = (madeS a n R r).2 + 1 := h3
      omega
section
variable {S : HX} {n R : Nat} {kk : Nat → Nat} {pv : Nat → Int} {b : Nat → Int}
theorem ySol_keep (h : Piv S n R kk pv) {r : Nat} : ∀ {m : Nat}, r ≤ m → m ≤ R → ∀ j, j < kk r → ySol S pv kk b m j = ySol S pv kk b r j
  | 0, h1, _, j, _ => by obtain rfl : r = 0 := by omega
                         rfl
  | m + 1, h1, h2, j, hj => by
    by_cases c : r = m + 1
    · rw [c]
    · have ih := ySol_keep h (r := r) (m := m) (by omega) (by omega) j hj
      have hm := h.shp.mono (i := r) (j := m) (by omega) (by omega)
      show (if pv m < 0 then ySol S pv kk b m else fun j => if j = kk m then _ else ySol S pv kk b m j) j = _
      split
      · exact ih
      · show (if j = kk m then _ else ySol S pv kk b m j) = _
        rw [if_neg (by omega)]; exact ih
/-- A row's sum, with what is right of the stair gone. -/
theorem row_sum (h : Piv S n R kk pv) {r : Nat} (hr : r < R) (y : Nat → Int) : smI (fun j => S.h r j * y j) n = smI (fun j => S.h r j * y j) (kk r) + (if kk r < n then S.h r (kk r) * y (kk r) else 0) := by
  have hk := h.shp.le r (by omega)
  by_cases c : kk r < n
  · rw [if_pos c]
    have e1 : smI (fun j => S.h r j * y j) n = smI (fun j => S.h r j * y j) (kk r + 1) := by
      have : ∀ m, kk r + 1 ≤ m → m ≤ n → smI (fun j => S.h r j * y j) m = smI (fun j => S.h r j * y j) (kk r + 1) := by
        intro m
        induction m with
        | zero => intro h1 _; omega
        | succ m ih =>
          intro h1 h2
          by_cases e : m = kk r
          · rw [e]
          · rw [smI, ih (by omega) (by omega)]
            show _ + S.h r m * y m = _
            rw [h.shp.right r m hr (by omega) (by omega), Int.zero_mul, Int.add_zero]
      exact this n (by omega) (Nat.le_refl _)
    rw [e1, smI]
  · rw [if_neg c, Int.add_zero, show kk r = n by omega]
/-- Rows that aren't bad are solved. -/
theorem row_solved (h : Piv S n R kk pv) {r : Nat} (hr : r < R) {m : Nat} (hm : r < m) (hmR : m ≤ R) (hg : ¬ badS S pv kk b r) : smI (fun j => S.h r j * ySol S pv kk b m j) n = b r := by
  have hk := ySol_keep (b := b) h (r := r) (m := m) (by omega) hmR
  rw [row_sum h hr]
  have hsum : smI (fun j => S.h r j * ySol S pv kk b m j) (kk r) = smI (fun j => S.h r j * ySol S pv kk b r j) (kk r) := smI_congr fun j hj => by rw [hk j hj]
  rw [hsum]
  have hl : leftS S pv kk b r = b r - smI (fun i => S.h r i * ySol S pv kk b r i) (kk r) := rfl
  unfold badS at hg
  rcases h.row r hr with ⟨h1, h2, h3⟩ | ⟨h1, h2, h3, h4⟩
  · rw [if_pos h1] at hg
    have hz : leftS S pv kk b r = 0 := by
      by_cases c : leftS S pv kk b r = 0
      · exact c
      · exact (hg c).elim
    have : (if kk r < n then S.h r (kk r) * ySol S pv kk b m (kk r) else 0) = 0 := by
      split
      · rename_i c; rw [h3 c, Int.zero_mul]
      · rfl
    rw [this]; omega
  · rw [if_neg (by omega)] at hg
    have hz : Int.fmod (leftS S pv kk b r) (S.h r (kk r)) = 0 := by
      by_cases c : Int.fmod (leftS S pv kk b r) (S.h r (kk r)) = 0
      · exact c
      · exact (hg c).elim
    have hk2 := ySol_keep (b := b) h (r := r + 1) (m := m) (by omega) hmR (kk r) (by omega)
    have e : ySol S pv kk b (r + 1) (kk r) = Int.fdiv (leftS S pv kk b r) (S.h r (kk r)) := by
      show (if pv r < 0 then ySol S pv kk b r else fun j => if j = kk r then Int.fdiv (leftS S pv kk b r) (S.h r (kk r)) else ySol S pv kk b r j) (kk r) = _
      rw [if_neg (by omega)]
      exact if_pos rfl
    rw [if_pos h2, hk2, e]
    have := Int.mul_fdiv_add_fmod (leftS S pv kk b r) (S.h r (kk r))
    omega
/-- Where integers solve all rows, none is bad. -/
theorem none_bad (h : Piv S n R kk pv) {z : Nat → Int} (hz : ∀ r, r < R → smI (fun j => S.h r j * z j) n = b r) : ∀ r, r ≤ R → (∀ j, j < kk r → ySol S pv kk b r j = z j) ∧ (r < R → ¬ badS S pv kk b r) := by
  have hleft : ∀ r, r < R → (∀ j, j < kk r → ySol S pv kk b r j = z j) → leftS S pv kk b r = if kk r < n then S.h r (kk r) * z (kk r) else 0 := fun r hr hy => by
    have h1 := hz r hr
    rw [row_sum h hr] at h1
    have h2 : smI (fun i => S.h r i * ySol S pv kk b r i) (kk r) = smI (fun j => S.h r j * z j) (kk r) := smI_congr fun j hj => by rw [hy j hj]
    show b r - smI (fun i => S.h r i * ySol S pv kk b r i) (kk r) = _
    rw [h2]; omega
  have hgood : ∀ r, r < R → (∀ j, j < kk r → ySol S pv kk b r j = z j) → ¬ badS S pv kk b r := fun r hr hy => by
    have hl := hleft r hr hy
    unfold badS
    rcases h.row r hr with ⟨h1, h2, h3⟩ | ⟨h1, h2, h3, h4⟩
    · rw [if_pos h1, hl]
      intro hne
      refine hne ?_
      split
      · rename_i c; rw [h3 c, Int.zero_mul]
      · rfl
    · rw [if_neg (by omega), hl, if_pos h2]
      intro hne
      exact hne (Int.mul_fmod_right _ _)
  intro r
  induction r with
  | zero =>
    intro _
    have h0 : ∀ j, j < kk 0 → ySol S pv kk b 0 j = z j := fun j hj => by rw [h.shp.k0] at hj; omega
    exact ⟨h0, fun h => hgood 0 h h0⟩
  | succ r ih =>
    intro hr
    obtain ⟨ih, _⟩ := ih (by omega)
    have hl := hleft r (by omega) ih
    have h3 : ∀ j, j < kk (r + 1) → ySol S pv kk b (r + 1) j = z j := fun j hj => by
      show (if pv r < 0 then ySol S pv kk b r else fun j => if j = kk r then Int.fdiv (leftS S pv kk b r) (S.h r (kk r)) else ySol S pv kk b r j) j = _
      rcases h.row r (by omega) with ⟨h1, h2, _⟩ | ⟨h1, h2, h3, h4⟩
      · rw [if_pos h1]; exact ih j (by omega)
      · rw [if_neg (by omega)]
        show (if j = kk r then _ else ySol S pv kk b r j) = _
        by_cases c : j = kk r
        · rw [if_pos c, hl, if_pos h2, c]
          exact Int.mul_fdiv_cancel_left _ (by omega)
        · rw [if_neg c]; exact ih j (by omega)
    exact ⟨h3, fun h => hgood (r + 1) h h3⟩
end
section
variable {a : Nat → Nat → Int} {n R : Nat} {S : HX}
/-- The matrix times x is the form times v times x. -/
theorem InvH.vx (h : InvH a n R S) (x : Nat → Int) {r : Nat} (hr : r < R) : smI (fun j => S.h r j * smI (fun i => S.v j i * x i) n) n = smI (fun i => a r i * x i) n := by
  have hc := h.cols'
  have e : ∀ j, j < n → S.h r j * smI (fun i => S.v j i * x i) n = smI (fun i => S.h r j * S.v j i * x i) n := fun j _ => by
    rw [← smI_mul]; exact smI_congr fun i _ => (Int.mul_assoc _ _ _).symm
  rw [smI_congr e, smI_swap]
  refine smI_congr fun i hi => ?_
  have e2 : a r i = smI (fun j => S.h r j * S.v j i) n := by
    have e : ∀ j, j < n → S.h r j * S.v j i = smI (fun l => a r l * S.u l j * S.v j i) n := fun j hj => by
      rw [h.hau r hr j hj, Int.mul_comm, ← smI_mul]
      exact smI_congr fun l _ => Int.mul_comm _ _
    rw [smI_congr e, smI_swap]
    have e2 : ∀ l, l < n → smI (fun j => a r l * S.u l j * S.v j i) n = a r l * (if l = i then 1 else 0) := fun l hl => by
      rw [← h.uv l i hl hi, ← smI_mul]
      exact smI_congr fun j _ => Int.mul_assoc _ _ _
    rw [smI_congr e2, smI_single (f := fun l => a r l * if l = i then 1 else 0) hi fun j _ hj => by rw [if_neg hj, Int.mul_zero], if_pos rfl, Int.mul_one]
  rw [e2, Int.mul_comm, ← smI_mul]
  exact smI_congr fun j _ => Int.mul_comm _ _
/-- The matrix times u times y is the form times y. -/
theorem InvH.uy (h : InvH a n R S) (y : Nat → Int) {r : Nat} (hr : r < R) : smI (fun i => a r i * smI (fun j => S.u i j * y j) n) n = smI (fun j => S.h r j * y j) n := by
  have e : ∀ i, i < n → a r i * smI (fun j => S.u i j * y j) n = smI (fun j => a r i * S.u i j * y j) n := fun j _ => by
    rw [← smI_mul]; exact smI_congr fun i _ => (Int.mul_assoc _ _ _).symm
  rw [smI_congr e, smI_swap]
  refine smI_congr fun j hj => ?_
  rw [h.hau r hr j hj, Int.mul_comm, ← smI_mul]
  exact smI_congr fun i _ => Int.mul_comm _ _
end
end Go.Abs
