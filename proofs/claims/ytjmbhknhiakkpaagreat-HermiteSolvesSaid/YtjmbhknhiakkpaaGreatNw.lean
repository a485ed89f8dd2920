/- At every input the call answers true and leaves its arguments as they were; no conditions. -/
import Derived.Test.YtjmbhknhiakkpaaGreatNz
set_option linter.unusedSimpArgs false
set_option linter.unusedVariables false
namespace Go.Abs
/-! ### The form is the only one -/
/-- The columns of the one are sums of columns of the other. -/
def Cols (R n : Nat) (g g' : Nat → Nat → Int) : Prop := ∃ w : Nat → Nat → Int, ∀ r, r < R → ∀ c, c < n → g r c = smI (fun j => g' r j * w j c) n
theorem Cols.trans {R n : Nat} {g g' g2 : Nat → Nat → Int} (h1 : Cols R n g g') (h2 : Cols R n g' g2) : Cols R n g g2 := by
  obtain ⟨w, h1⟩ := h1
  obtain ⟨w', h2⟩ := h2
  refine ⟨fun l c => smI (fun j => w' l j * w j c) n, fun r hr c hc => ?_⟩
  rw [h1 r hr c hc]
  have e : ∀ j, j < n → g' r j * w j c = smI (fun l => g2 r l * w' l j * w j c) n := fun j hj => by
    rw [h2 r hr j hj, Int.mul_comm, ← smI_mul]
    exact smI_congr fun l _ => Int.mul_comm _ _
  rw [smI_congr e, smI_swap]
  refine smI_congr fun l _ => ?_
  rw [← smI_mul]
  exact smI_congr fun j _ => Int.mul_assoc _ _ _
theorem Cols.refl {R n : Nat} (g : Nat → Nat → Int) : Cols R n g g :=
  ⟨fun j c => if j = c then 1 else 0, fun r _ c hc => by rw [smI_single (f := fun j => g r j * if j = c then 1 else 0) hc fun j _ hj => by rw [if_neg hj, Int.mul_zero], if_pos rfl, Int.mul_one]⟩
theorem Cols.congr {R n : Nat} {g g' g2 : Nat → Nat → Int} (h : Cols R n g g') (e : ∀ r c, r < R → c < n → g2 r c = g r c) : Cols R n g2 g' := by
  obtain ⟨w, h⟩ := h
  exact ⟨w, fun r hr c hc => by rw [e r c hr hc]; exact h r hr c hc⟩
theorem InvH.cols {a : Nat → Nat → Int} {n R : Nat} {S : HX} (h : InvH a n R S) : Cols R n S.h a := ⟨S.u, h.hau⟩
theorem InvH.cols' {a : Nat → Nat → Int} {n R : Nat} {S : HX} (h : InvH a n R S) : Cols R n a S.h := by
  refine ⟨S.v, fun r hr c hc => ?_⟩
  have e : ∀ j, j < n → S.h r j * S.v j c = smI (fun l => a r l * S.u l j * S.v j c) n := fun j hj => by
    rw [h.hau r hr j hj, Int.mul_comm, ← smI_mul]
    exact smI_congr fun l _ => Int.mul_comm _ _
  rw [smI_congr e, smI_swap]
  have e2 : ∀ l, l < n → smI (fun j => a r l * S.u l j * S.v j c) n = a r l * (if l = c then 1 else 0) := fun l hl => by
    rw [← h.uv l c hl hc, ← smI_mul]
    exact smI_congr fun j _ => Int.mul_assoc _ _ _
  rw [smI_congr e2, smI_single hc fun j _ hj => by rw [if_neg hj, Int.mul_zero], if_pos rfl, Int.mul_one]
section
variable {g g' : Nat → Nat → Int} {R n : Nat} {k k' : Nat → Nat}
theorem Shp.step (h : Shp g R n k) {i : Nat} (hi : i < R) : (k (i + 1) = k i ∧ (k i < n → g i (k i) = 0)) ∨ (k i < n ∧ 0 < g i (k i) ∧ k (i + 1) = k i + 1) := by
  by_cases c : n ≤ k i
  · exact .inl ⟨h.out i hi c, fun h => by omega⟩
  · by_cases c2 : g i (k i) = 0
    · exact .inl ⟨h.zero i hi (by omega) c2, fun _ => c2⟩
    · have h3 := h.nonneg i hi (by omega)
      exact .inr ⟨by omega, by omega, (h.piv i hi (by omega) (by omega)).1⟩
theorem Shp.mono (h : Shp g R n k) {i : Nat} : ∀ {j : Nat}, i ≤ j → j ≤ R → k i ≤ k j
  | 0, h1, _ => by obtain rfl : i = 0 := by omega
                   exact Nat.le_refl _
  | j + 1, h1, h2 => by
    by_cases c : i = j + 1
    · rw [c]; exact Nat.le_refl _
    · have := h.mono (i := i) (j := j) (by omega) (by omega)
      rcases h.step (i := j) (by omega) with ⟨e, _⟩ | ⟨_, _, e⟩ <;> omega
theorem Shp.sum (h : Shp g R n k) {x : Nat → Int} {r : Nat} (hr : r < R) (hx : ∀ j, j < k r → x j = 0) : smI (fun j => g r j * x j) n = if k r < n then g r (k r) * x (k r) else 0 := by
  by_cases c : k r < n
  · rw [if_pos c]
    refine smI_single (f := fun j => g r j * x j) c fun j hj hne => ?_
    show g r j * x j = 0
    rcases Nat.lt_or_ge j (k r) with h1 | h1
    · rw [hx j h1, Int.mul_zero]
    · rw [h.right r j hr (by omega) hj, Int.zero_mul]
  · rw [if_neg c]
    exact smI_zero fun j hj => by rw [hx j (by omega), Int.mul_zero]
theorem Shp.low (h : Shp g R n k) {x : Nat → Int} {r : Nat} (hr : r < R) (h0 : ∀ i, i < r → smI (fun j => g i j * x j) n = 0) : ∀ i, i ≤ r → ∀ j, j < k i → x j = 0
  | 0, _, j, hj => by rw [h.k0] at hj; omega
  | i + 1, hi, j, hj => by
    have ih := h.low hr h0 i (by omega)
    rcases h.step (i := i) (by omega) with ⟨e, _⟩ | ⟨h1, h2, e⟩
    · exact ih j (by omega)
    · by_cases c : j = k i
      · have h3 := h0 i (by omega)
        rw [h.sum (by omega) ih, if_pos h1] at h3
        rw [c]
        rcases Int.mul_eq_zero.1 h3 with h4 | h4
        · omega
        · exact h4
      · exact ih j (by omega)
/-- What stands on the stair. -/
def stH (g : Nat → Nat → Int) (n : Nat) (k : Nat → Nat) (r : Nat) : Int := if k r < n then g r (k r) else 0
theorem Shp.dvd (h : Shp g R n k) {x : Nat → Int} {r : Nat} (hr : r < R) (h0 : ∀ i, i < r → smI (fun j => g i j * x j) n = 0) : stH g n k r ∣ smI (fun j => g r j * x j) n := by
  rw [h.sum hr (h.low hr h0 r (Nat.le_refl _))]
  unfold stH
  split
  · exact Int.dvd_mul_right _ _
  · exact Int.dvd_refl _
theorem Shp.above (h : Shp g R n k) {r : Nat} (hr : r < R) (hk : k r < n) {i : Nat} (hi : i < r) : g i (k r) = 0 := by
  have h1 := h.mono (i := i + 1) (j := r) (by omega) (by omega)
  rcases h.step (i := i) (by omega) with ⟨e, h2⟩ | ⟨_, _, e⟩
  · rcases Nat.lt_or_ge (k i) (k r) with h3 | h3
    · exact h.right i _ (by omega) h3 hk
    · have : k i = k r := by omega
      rw [← this]; exact h2 (by omega)
  · exact h.right i _ (by omega) (by omega) hk
theorem Shp.st_nonneg (h : Shp g R n k) {r : Nat} (hr : r < R) : 0 ≤ stH g n k r := by
  unfold stH; split
  · exact h.nonneg r hr ‹_›
  · exact Int.le_refl _
theorem Shp.st_dvd (h : Shp g R n k) (h' : Shp g' R n k') (hc : Cols R n g g') {r : Nat} (hr : r < R) : stH g' n k' r ∣ stH g n k r := by
  by_cases c : k r < n
  · obtain ⟨w, hw⟩ := hc
    have e : stH g n k r = smI (fun j => g' r j * w j (k r)) n := by unfold stH; rw [if_pos c]; exact hw r hr _ c
    rw [e]
    exact h'.dvd hr fun i hi => by rw [← hw i (by omega) _ c]; exact h.above hr c hi
  · unfold stH; rw [if_neg c]; exact Int.dvd_zero _
theorem dvd_anti {x y : Int} (hx : 0 ≤ x) (hy : 0 ≤ y) (h1 : x ∣ y) (h2 : y ∣ x) : x = y := by
  have := Nat.dvd_antisymm (Int.natAbs_dvd_natAbs.2 h1) (Int.natAbs_dvd_natAbs.2 h2)
  omega
theorem dvd_small {p x y : Int} (hx : 0 ≤ x) (hxp : x < p) (hy : 0 ≤ y) (hyp : y < p) (h : p ∣ x - y) : x = y := by
  have := Int.eq_zero_of_dvd_of_natAbs_lt_natAbs h (by omega)
  omega
/-- Two forms of one matrix are alike. -/
theorem shp_uniq (h : Shp g R n k) (h' : Shp g' R n k') (hc : Cols R n g g') (hc' : Cols R n g' g) : ∀ r, r ≤ R → k r = k' r ∧ ∀ i c, i < r → c < n → g i c = g' i c
  | 0, _ => ⟨by rw [h.k0, h'.k0], fun i c hi => by omega⟩
  | r + 1, hr => by
    obtain ⟨ih1, ih2⟩ := shp_uniq h h' hc hc' r (by omega)
    have hr' : r < R := by omega
    have hp := dvd_anti (h'.st_nonneg hr') (h.st_nonneg hr') (h.st_dvd h' hc hr') (h'.st_dvd h hc' hr')
    have hdv : ∀ c, c < n → stH g' n k' r ∣ g r c - g' r c := fun c hcn => by
      obtain ⟨w, hw⟩ := hc
      have e : ∀ i, i < R → g i c - g' i c = smI (fun j => g' i j * (w j c - if j = c then 1 else 0)) n := fun i hi => by
        have e1 : g' i c = smI (fun j => g' i j * if j = c then 1 else 0) n := by
          rw [smI_single (f := fun j => g' i j * if j = c then 1 else 0) hcn fun j _ hj => by rw [if_neg hj, Int.mul_zero], if_pos rfl, Int.mul_one]
        rw [hw i hi c hcn]
        conv => lhs; rhs; rw [e1]
        rw [← smI_sub]
        exact smI_congr fun j _ => (Int.mul_sub _ _ _).symm
      rw [e r hr']
      exact h'.dvd hr' fun i hi => by rw [← e i (by omega), ih2 i c hi hcn]; omega
    refine ⟨?_, fun i c hi hcn => ?_⟩
    · rcases h.step hr' with ⟨e1, h1⟩ | ⟨h1, h2, e1⟩ <;> rcases h'.step hr' with ⟨e2, h3⟩ | ⟨h3, h4, e2⟩
      · omega
      · unfold stH at hp
        rw [if_pos h3, if_pos (by omega), h1 (by omega)] at hp
        omega
      · unfold stH at hp
        rw [if_pos h1, if_pos (by omega), h3 (by omega)] at hp
        omega
      · omega
    · by_cases e : i = r
      · rw [e]
        have hd := hdv c hcn
        by_cases ck : k r < n
        · have ck' : k' r < n := by omega
          rcases Nat.lt_trichotomy c (k r) with h1 | h1 | h1
          · rcases h.step hr' with ⟨_, h2⟩ | ⟨_, h2, _⟩
            · have hz : stH g' n k' r = 0 := by rw [hp]; unfold stH; rw [if_pos ck]; exact h2 ck
              rw [hz] at hd
              have := Int.zero_dvd.1 hd
              omega
            · have h3 := (h.piv r hr' ck h2).2 c h1
              have e1 : stH g n k r = g r (k r) := by unfold stH; rw [if_pos ck]
              have e2 : stH g' n k' r = g' r (k' r) := by unfold stH; rw [if_pos ck']
              have h4 := (h'.piv r hr' ck' (by rw [← e2, hp, e1]; exact h2)).2 c (by omega)
              exact dvd_small h3.1 (by rw [← e1, ← hp] at h3; exact h3.2) h4.1 (by rw [← e2] at h4; exact h4.2) hd
          · have e1 : stH g n k r = g r c := by unfold stH; rw [if_pos ck, h1]
            have e2 : stH g' n k' r = g' r c := by unfold stH; rw [if_pos ck', h1, ih1]
            rw [← e1, ← e2, hp]
          · rw [h.right r c hr' h1 hcn, h'.right r c hr' (by omega) hcn]
        · have hz : stH g' n k' r = 0 := by rw [hp]; unfold stH; rw [if_neg ck]
          rw [hz] at hd
          have := Int.zero_dvd.1 hd
          omega
      · exact ih2 i c (by omega) hcn
end
/-- A multiple of one column is laid upon another. -/
def laidC (a : Nat → Nat → Int) (x y : Nat) (q : Int) (r c : Nat) : Int := if c = x then a r x + q * a r y else a r c
theorem cols_laid {a : Nat → Nat → Int} {R n x y : Nat} {q : Int} (hx : x < n) (hy : y < n) : Cols R n (laidC a x y q) a := by
  refine ⟨fun j c => (if j = c then 1 else 0) + if c = x ∧ j = y then q else 0, fun r hr c hc => ?_⟩
  rw [smI_congr (g := fun j => (a r j * if j = c then 1 else 0) + (a r j * if c = x ∧ j = y then q else 0)) fun j _ => Int.mul_add _ _ _, smI_add,
    smI_single (f := fun j => a r j * if j = c then 1 else 0) hc fun j _ hj => by rw [if_neg hj, Int.mul_zero],
    smI_single (f := fun j => a r j * if c = x ∧ j = y then q else 0) hy fun j _ hj => by rw [if_neg fun h => hj h.2, Int.mul_zero], if_pos rfl]
  unfold laidC
  by_cases e : c = x
  · rw [if_pos e, if_pos ⟨e, rfl⟩, e, Int.mul_comm (a r y)]; omega
  · rw [if_neg e, if_neg fun h => e h.1]; omega
theorem laid_back {a : Nat → Nat → Int} {x y : Nat} {q : Int} (hne : x ≠ y) (r c : Nat) : laidC (laidC a x y q) x y (-q) r c = a r c := by
  unfold laidC
  rw [if_pos rfl, if_neg (show ¬ y = x by omega)]
  by_cases e : c = x
  · rw [if_pos e, e, Int.neg_mul]; omega
  · rw [if_neg e, if_neg e]
end Go.Abs
namespace Go.Abs
/-! ### What is solved solves; what can't be solved has no solution -/
/-- Which rows have a pivot. -/
structure Piv (S : HX) (n R : Nat) (kk : Nat → Nat) (pv : Nat → Int) : Prop where
  shp : Shp S.h R n kk
  row : ∀ r, r < R → (pv r < 0 ∧ kk (r + 1) = kk r ∧ (kk r < n → S.h r (kk r) = 0)) ∨ (pv r = (kk r : Int) ∧ kk r < n ∧ 0 < S.h r (kk r) ∧ kk (r + 1) = kk r + 1)
theorem made_piv {a : Nat → Nat → Int} {n R : Nat} (hn : n ≤ 6) (ha : ∀ r c, r < R → c < n → (a r c).natAbs ≤ 2 ^ 96) : Piv (madeS a n R R).1 n R (fun r => (madeS a n R r).2) (pvS a n R) := by
  have hs := made_shp hn ha
  refine ⟨hs, fun r hr => ?_⟩
  have e : (madeS a n R (r + 1)).2 = if (rowH (madeS a n R r).1 r (madeS a n R r).2).2 then (madeS a n R r).2 + 1 else (madeS a n R r).2 := rfl
  by_cases c : (rowH (madeS a n R r).1 r (madeS a n R r).2).2 = true
  · rw [if_pos c] at e
    have hp : pvS a n R r = ((madeS a n R r).2 : Int) := by unfold pvS; rw [if_pos c]
    rcases hs.step hr with ⟨h1, _⟩ | ⟨h1, h2, h3⟩
    · have h1 : (madeS a n R (r + 1)).2 = (madeS a n R r).2 := h1
      omega
    · exact .inr ⟨hp, h1, h2, h3⟩
  · rw [if_neg c] at e
    have hp : pvS a n R r = -1 := by unfold pvS; rw [if_neg c]
    rcases hs.step hr with ⟨h1, h2⟩ | ⟨_, _, h3⟩
    · exact .inl ⟨by rw [hp]; decide, h1, h2⟩
    · have h3 : (madeS a n R (r + 1)).2 = (madeS a n R r).2 + 1 := h3
      omega
section
variable {S : HX} {n R : Nat} {kk : Nat → Nat} {pv : Nat → Int} {b : Nat → Int}
theorem ySol_keep (h : Piv S n R kk pv) {r : Nat} : ∀ {m : Nat}, r ≤ m → m ≤ R → ∀ j, j < kk r → ySol S pv kk b m j = ySol S pv kk b r j
  | 0, h1, _, j, _ => by obtain rfl : r = 0 := by omega
                         rfl
  | m + 1, h1, h2, j, hj => by
    by_cases c : r = m + 1
    · rw [c]
    · have ih := ySol_keep h (r := r) (m := m) (by omega) (by omega) j hj
      have hm := h.shp.mono (i := r) (j := m) (by omega) (by omega)
      show (if pv m < 0 then ySol S pv kk b m else fun j => if j = kk m then _ else ySol S pv kk b m j) j = _
      split
      · exact ih
      · show (if j = kk m then _ else ySol S pv kk b m j) = _
        rw [if_neg (by omega)]; exact ih
/-- A row's sum, with what is right of the stair gone. -/
theorem row_sum (h : Piv S n R kk pv) {r : Nat} (hr : r < R) (y : Nat → Int) : smI (fun j => S.h r j * y j) n = smI (fun j => S.h r j * y j) (kk r) + (if kk r < n then S.h r (kk r) * y (kk r) else 0) := by
  have hk := h.shp.le r (by omega)
  by_cases c : kk r < n
  · rw [if_pos c]
    have e1 : smI (fun j => S.h r j * y j) n = smI (fun j => S.h r j * y j) (kk r + 1) := by
      have : ∀ m, kk r + 1 ≤ m → m ≤ n → smI (fun j => S.h r j * y j) m = smI (fun j => S.h r j * y j) (kk r + 1) := by
        intro m
        induction m with
        | zero => intro h1 _; omega
        | succ m ih =>
          intro h1 h2
          by_cases e : m = kk r
          · rw [e]
          · rw [smI, ih (by omega) (by omega)]
            show _ + S.h r m * y m = _
            rw [h.shp.right r m hr (by omega) (by omega), Int.zero_mul, Int.add_zero]
      exact this n (by omega) (Nat.le_refl _)
    rw [e1, smI]
  · rw [if_neg c, Int.add_zero, show kk r = n by omega]
/-- Rows that aren't bad are solved. -/
theorem row_solved (h : Piv S n R kk pv) {r : Nat} (hr : r < R) {m : Nat} (hm : r < m) (hmR : m ≤ R) (hg : ¬ badS S pv kk b r) : smI (fun j => S.h r j * ySol S pv kk b m j) n = b r := by
  have hk := ySol_keep (b := b) h (r := r) (m := m) (by omega) hmR
  rw [row_sum h hr]
  have hsum : smI (fun j => S.h r j * ySol S pv kk b m j) (kk r) = smI (fun j => S.h r j * ySol S pv kk b r j) (kk r) := smI_congr fun j hj => by rw [hk j hj]
  rw [hsum]
  have hl : leftS S pv kk b r = b r - smI (fun i => S.h r i * ySol S pv kk b r i) (kk r) := rfl
  unfold badS at hg
  rcases h.row r hr with ⟨h1, h2, h3⟩ | ⟨h1, h2, h3, h4⟩
  · rw [if_pos h1] at hg
    have hz : leftS S pv kk b r = 0 := by
      by_cases c : leftS S pv kk b r = 0
      · exact c
      · exact (hg c).elim
    have : (if kk r < n then S.h r (kk r) * ySol S pv kk b m (kk r) else 0) = 0 := by
      split
      · rename_i c; rw [h3 c, Int.zero_mul]
      · rfl
    rw [this]; omega
  · rw [if_neg (by omega)] at hg
    have hz : Int.fmod (leftS S pv kk b r) (S.h r (kk r)) = 0 := by
      by_cases c : Int.fmod (leftS S pv kk b r) (S.h r (kk r)) = 0
      · exact c
      · exact (hg c).elim
    have hk2 := ySol_keep (b := b) h (r := r + 1) (m := m) (by omega) hmR (kk r) (by omega)
    have e : ySol S pv kk b (r + 1) (kk r) = Int.fdiv (leftS S pv kk b r) (S.h r (kk r)) := by
      show (if pv r < 0 then ySol S pv kk b r else fun j => if j = kk r then Int.fdiv (leftS S pv kk b r) (S.h r (kk r)) else ySol S pv kk b r j) (kk r) = _
      rw [if_neg (by omega)]
      exact if_pos rfl
    rw [if_pos h2, hk2, e]
    have := Int.mul_fdiv_add_fmod (leftS S pv kk b r) (S.h r (kk r))
    omega
/-- Where integers solve all rows, none is bad. -/
theorem none_bad (h : Piv S n R kk pv) {z : Nat → Int} (hz : ∀ r, r < R → smI (fun j => S.h r j * z j) n = b r) : ∀ r, r ≤ R → (∀ j, j < kk r → ySol S pv kk b r j = z j) ∧ (r < R → ¬ badS S pv kk b r) := by
  have hleft : ∀ r, r < R → (∀ j, j < kk r → ySol S pv kk b r j = z j) → leftS S pv kk b r = if kk r < n then S.h r (kk r) * z (kk r) else 0 := fun r hr hy => by
    have h1 := hz r hr
    rw [row_sum h hr] at h1
    have h2 : smI (fun i => S.h r i * ySol S pv kk b r i) (kk r) = smI (fun j => S.h r j * z j) (kk r) := smI_congr fun j hj => by rw [hy j hj]
    show b r - smI (fun i => S.h r i * ySol S pv kk b r i) (kk r) = _
    rw [h2]; omega
  have hgood : ∀ r, r < R → (∀ j, j < kk r → ySol S pv kk b r j = z j) → ¬ badS S pv kk b r := fun r hr hy => by
    have hl := hleft r hr hy
    unfold badS
    rcases h.row r hr with ⟨h1, h2, h3⟩ | ⟨h1, h2, h3, h4⟩
    · rw [if_pos h1, hl]
      intro hne
      refine hne ?_
      split
      · rename_i c; rw [h3 c, Int.zero_mul]
      · rfl
    · rw [if_neg (by omega), hl, if_pos h2]
      intro hne
      exact hne (Int.mul_fmod_right _ _)
  intro r
  induction r with
  | zero =>
    intro _
    have h0 : ∀ j, j < kk 0 → ySol S pv kk b 0 j = z j := fun j hj => by rw [h.shp.k0] at hj; omega
    exact ⟨h0, fun h => hgood 0 h h0⟩
  | succ r ih =>
    intro hr
    obtain ⟨ih, _⟩ := ih (by omega)
    have hl := hleft r (by omega) ih
    have h3 : ∀ j, j < kk (r + 1) → ySol S pv kk b (r + 1) j = z j := fun j hj => by
      show (if pv r < 0 then ySol S pv kk b r else fun j => if j = kk r then Int.fdiv (leftS S pv kk b r) (S.h r (kk r)) else ySol S pv kk b r j) j = _
      rcases h.row r (by omega) with ⟨h1, h2, _⟩ | ⟨h1, h2, h3, h4⟩
      · rw [if_pos h1]; exact ih j (by omega)
      · rw [if_neg (by omega)]
        show (if j = kk r then _ else ySol S pv kk b r j) = _
        by_cases c : j = kk r
        · rw [if_pos c, hl, if_pos h2, c]
          exact Int.mul_fdiv_cancel_left _ (by omega)
        · rw [if_neg c]; exact ih j (by omega)
    exact ⟨h3, fun h => hgood (r + 1) h h3⟩
end
section
variable {a : Nat → Nat → Int} {n R : Nat} {S : HX}
/-- The matrix times x is the form times v times x. -/
theorem InvH.vx (h : InvH a n R S) (x : Nat → Int) {r : Nat} (hr : r < R) : smI (fun j => S.h r j * smI (fun i => S.v j i * x i) n) n = smI (fun i => a r i * x i) n := by
  have hc := h.cols'
  have e : ∀ j, j < n → S.h r j * smI (fun i => S.v j i * x i) n = smI (fun i => S.h r j * S.v j i * x i) n := fun j _ => by
    rw [← smI_mul]; exact smI_congr fun i _ => (Int.mul_assoc _ _ _).symm
  rw [smI_congr e, smI_swap]
  refine smI_congr fun i hi => ?_
  have e2 : a r i = smI (fun j => S.h r j * S.v j i) n := by
    have e : ∀ j, j < n → S.h r j * S.v j i = smI (fun l => a r l * S.u l j * S.v j i) n := fun j hj => by
      rw [h.hau r hr j hj, Int.mul_comm, ← smI_mul]
      exact smI_congr fun l _ => Int.mul_comm _ _
    rw [smI_congr e, smI_swap]
    have e2 : ∀ l, l < n → smI (fun j => a r l * S.u l j * S.v j i) n = a r l * (if l = i then 1 else 0) := fun l hl => by
      rw [← h.uv l i hl hi, ← smI_mul]
      exact smI_congr fun j _ => Int.mul_assoc _ _ _
    rw [smI_congr e2, smI_single (f := fun l => a r l * if l = i then 1 else 0) hi fun j _ hj => by rw [if_neg hj, Int.mul_zero], if_pos rfl, Int.mul_one]
  rw [e2, Int.mul_comm, ← smI_mul]
  exact smI_congr fun j _ => Int.mul_comm _ _
/-- The matrix times u times y is the form times y. -/
theorem InvH.uy (h : InvH a n R S) (y : Nat → Int) {r : Nat} (hr : r < R) : smI (fun i => a r i * smI (fun j => S.u i j * y j) n) n = smI (fun j => S.h r j * y j) n := by
  have e : ∀ i, i < n → a r i * smI (fun j => S.u i j * y j) n = smI (fun j => a r i * S.u i j * y j) n := fun j _ => by
    rw [← smI_mul]; exact smI_congr fun i _ => (Int.mul_assoc _ _ _).symm
  rw [smI_congr e, smI_swap]
  refine smI_congr fun j hj => ?_
  rw [h.hau r hr j hj, Int.mul_comm, ← smI_mul]
  exact smI_congr fun i _ => Int.mul_comm _ _
end
end Go.Abs
namespace Go.Abs
/-! ### The reason why nothing solves -/
theorem smI_castQ {f : Nat → Int} : ∀ {n : Nat}, ((smI f n : Int) : Rat) = smQ (fun i => (f i : Rat)) n
  | 0 => rfl
  | n + 1 => by rw [smI, smQ, Rat.intCast_add, smI_castQ]
theorem smQ_append {f : Nat → Rat} {m : Nat} : ∀ {n : Nat}, smQ f (m + n) = smQ f m + smQ (fun d => f (m + d)) n
  | 0 => by show smQ f m = smQ f m + 0; grind
  | n + 1 => by
    show smQ f (m + n) + f (m + n) = smQ f m + (smQ (fun d => f (m + d)) n + f (m + n))
    rw [smQ_append]; grind
section
variable {S : HX} {n R : Nat} {kk : Nat → Nat} {pv : Nat → Int} {b : Nat → Int} {T : Nat} {q0 : Rat}
theorem rsF_succ (t : Nat) : rsF S pv T q0 (t + 1) = if pv (T - 1 - t) < 0 then rsF S pv T q0 t else fun j => if j = T - 1 - t then -(smQ (fun d => rsF S pv T q0 t (T - t + d) * (S.h (T - t + d) (pv (T - 1 - t)).toNat : Rat)) (t + 1) * (S.h (T - 1 - t) (pv (T - 1 - t)).toNat : Rat)⁻¹) else rsF S pv T q0 t j := rfl
theorem rsF_ne {t j : Nat} (h : j ≠ T - 1 - t) : rsF S pv T q0 (t + 1) j = rsF S pv T q0 t j := by
  rw [rsF_succ]
  split
  · rfl
  · exact if_neg h
theorem rsF_keep {t j : Nat} : ∀ {t' : Nat}, t ≤ t' → t' ≤ T → T - t ≤ j → rsF S pv T q0 t' j = rsF S pv T q0 t j
  | 0, h1, _, _ => by obtain rfl : t = 0 := by omega
                      rfl
  | t' + 1, h1, h2, h3 => by
    by_cases c : t = t' + 1
    · rw [c]
    · rw [rsF_ne (by omega), rsF_keep (t := t) (t' := t') (by omega) (by omega) h3]
theorem rsF_hi {t j : Nat} (ht : t ≤ T) (hj : T < j) : rsF S pv T q0 t j = 0 := by
  rw [rsF_keep (t := 0) (Nat.zero_le _) ht (by omega)]
  show (if j = T then q0 else 0) = 0
  exact if_neg (by omega)
theorem rsF_T {t : Nat} (ht : t ≤ T) : rsF S pv T q0 t T = q0 := by
  rw [rsF_keep (t := 0) (Nat.zero_le _) ht (by omega)]
  exact if_pos rfl
/-- A column's sum. -/
def colS (S : HX) (f : Nat → Rat) (R c : Nat) : Rat := smQ (fun j => f j * (S.h j c : Rat)) R
theorem colS_low (h : Piv S n R kk pv) (hT : T < R) {i : Nat} (hi : i < T) (hp : 0 ≤ pv i) : colS S (rsF S pv T q0 T) R (kk i) = 0 := by
  have hrow : pv i = (kk i : Int) ∧ kk i < n ∧ 0 < S.h i (kk i) := by
    rcases h.row i (by omega) with ⟨h1, _⟩ | ⟨h1, h2, h3, _⟩
    · omega
    · exact ⟨h1, h2, h3⟩
  obtain ⟨hpi, hkn, hpos⟩ := hrow
  obtain ⟨f, hf⟩ : ∃ f, f = rsF S pv T q0 T := ⟨_, rfl⟩
  have hab : ∀ j, j < i → S.h j (kk i) = 0 := fun j hj => h.shp.above (by omega) hkn hj
  have hhi : ∀ j, T < j → f j = 0 := fun j hj => by rw [hf]; exact rsF_hi (Nat.le_refl _) hj
  have hfi : f i = -(smQ (fun d => f (i + 1 + d) * (S.h (i + 1 + d) (kk i) : Rat)) (T - i) * (S.h i (kk i) : Rat)⁻¹) := by
    have e1 : f i = rsF S pv T q0 (T - 1 - i + 1) i := by rw [hf]; exact rsF_keep (by omega) (Nat.le_refl _) (by omega)
    rw [e1, rsF_succ, show T - 1 - (T - 1 - i) = i by omega, if_neg (by omega)]
    show (if i = i then _ else _) = _
    rw [if_pos rfl, hpi, Int.toNat_natCast, show T - (T - 1 - i) = i + 1 by omega, show T - 1 - i + 1 = T - i by omega]
    congr 2
    refine smQ_congr fun d _ => ?_
    congr 1
    rw [hf]
    exact (rsF_keep (by omega) (Nat.le_refl _) (by omega)).symm
  rw [← hf]
  unfold colS
  rw [show R = i + 1 + (T - i) + (R - T - 1) by omega, smQ_append, smQ_append, smQ, smQ_zero fun j hj => by rw [hab j hj, show ((0 : Int) : Rat) = 0 from rfl]; grind]
  rw [smQ_zero (f := fun d => f (i + 1 + (T - i) + d) * (S.h (i + 1 + (T - i) + d) (kk i) : Rat)) fun d _ => by rw [hhi _ (by omega)]; grind, hfi]
  have hne : (S.h i (kk i) : Rat) ≠ 0 := by
    intro h0
    have : S.h i (kk i) = 0 := by exact_mod_cast h0
    omega
  generalize smQ _ (T - i) = s
  generalize (S.h i (kk i) : Rat) = p at *
  grind
/-- Each column left of the stair has its pivot. -/
theorem col_piv (h : Piv S n R kk pv) {c : Nat} : ∀ {m : Nat}, m ≤ R → c < kk m → ∃ i, i < m ∧ 0 ≤ pv i ∧ kk i = c
  | 0, _, hc => by rw [h.shp.k0] at hc; omega
  | m + 1, hm, hc => by
    rcases h.row m (by omega) with ⟨h1, h2, _⟩ | ⟨h1, h2, h3, h4⟩
    · obtain ⟨i, a1, a2, a3⟩ := col_piv h (c := c) (m := m) (by omega) (by omega)
      exact ⟨i, by omega, a2, a3⟩
    · by_cases e : c = kk m
      · exact ⟨m, by omega, by omega, e.symm⟩
      · obtain ⟨i, a1, a2, a3⟩ := col_piv h (c := c) (m := m) (by omega) (by omega)
        exact ⟨i, by omega, a2, a3⟩
theorem stair_hi (h : Piv S n R kk pv) {m : Nat} (hm : m ≤ R) {j c : Nat} (hj : j < m) (hc : kk m ≤ c) (hcn : c < n) : S.h j c = 0 := by
  have h1 := h.shp.mono (i := j + 1) (j := m) (by omega) hm
  rcases h.row j (by omega) with ⟨_, h2, h3⟩ | ⟨_, _, _, h4⟩
  · by_cases e : c = kk j
    · rw [e]; exact h3 (by omega)
    · exact h.shp.right j c (by omega) (by omega) hcn
  · exact h.shp.right j c (by omega) (by omega) hcn
theorem colS_high (h : Piv S n R kk pv) (hT : T < R) {c : Nat} (hc : kk T ≤ c) (hcn : c < n) : colS S (rsF S pv T q0 T) R c = q0 * (S.h T c : Rat) := by
  unfold colS
  rw [smQ_single (f := fun j => rsF S pv T q0 T j * (S.h j c : Rat)) hT fun j _ hne => ?_, rsF_T (Nat.le_refl _)]
  show rsF S pv T q0 T j * (S.h j c : Rat) = 0
  rcases Nat.lt_or_ge j T with h1 | h1
  · rw [stair_hi h (by omega) h1 hc hcn, show ((0 : Int) : Rat) = 0 from rfl]; grind
  · rw [rsF_hi (Nat.le_refl _) (by omega)]; grind
/-- All columns' sums are whole. -/
theorem colS_int (h : Piv S n R kk pv) (hT : T < R) (hq : q0 = oftS S pv kk b T) {c : Nat} (hcn : c < n) : ∃ w : Int, colS S (rsF S pv T q0 T) R c = (w : Rat) := by
  by_cases c1 : c < kk T
  · obtain ⟨i, h1, h2, h3⟩ := col_piv h (c := c) (m := T) (by omega) c1
    exact ⟨0, by rw [← h3, colS_low h hT h1 h2]; rfl⟩
  · rw [colS_high h hT (by omega) hcn]
    rcases h.row T hT with ⟨h1, h2, h3⟩ | ⟨h1, h2, h3, h4⟩
    · have h0 : S.h T c = 0 := by
        by_cases e : c = kk T
        · rw [e]; exact h3 (by omega)
        · exact h.shp.right T c hT (by omega) hcn
      exact ⟨0, by rw [h0, show ((0 : Int) : Rat) = 0 from rfl]; grind⟩
    · by_cases e : c = kk T
      · have hne : (S.h T (kk T) : Rat) ≠ 0 := by
          intro h0
          have : S.h T (kk T) = 0 := by exact_mod_cast h0
          omega
        refine ⟨1, ?_⟩
        rw [hq, e]
        unfold oftS
        rw [if_neg (by omega), Rat.divInt_eq_div, Rat.div_def]
        have : (((1 : Int)) : Rat) = 1 := rfl
        rw [this]
        generalize (S.h T (kk T) : Rat) = p at *
        grind
      · exact ⟨0, by rw [h.shp.right T c hT (by omega) hcn, show ((0 : Int) : Rat) = 0 from rfl]; grind⟩
/-- The sum of the right sides. -/
theorem rs_right (h : Piv S n R kk pv) (hT : T < R) (hgood : ∀ r, r < T → ¬ badS S pv kk b r) : smQ (fun j => rsF S pv T q0 T j * (b j : Rat)) R = q0 * (leftS S pv kk b T : Rat) := by
  obtain ⟨f, hf⟩ : ∃ f, f = rsF S pv T q0 T := ⟨_, rfl⟩
  obtain ⟨y, hy⟩ : ∃ y : Nat → Int, y = fun c => if c < kk T then ySol S pv kk b T c else 0 := ⟨_, rfl⟩
  have hlow : ∀ c, c < kk T → colS S f R c = 0 := fun c hc => by
    obtain ⟨i, h1, h2, h3⟩ := col_piv h (c := c) (m := T) (by omega) hc
    rw [← h3, hf]; exact colS_low h hT h1 h2
  have hrow : ∀ j, j < R → f j * (b j : Rat) = smQ (fun c => f j * (S.h j c : Rat) * (y c : Rat)) n + if j = T then q0 * (leftS S pv kk b T : Rat) else 0 := fun j hj => by
    have e1 : smQ (fun c => f j * (S.h j c : Rat) * (y c : Rat)) n = f j * ((smI (fun c => S.h j c * y c) n : Int) : Rat) := by
      rw [smI_castQ, ← smQ_mul]
      exact smQ_congr fun c _ => by rw [Rat.intCast_mul]; grind
    rw [e1]
    rcases Nat.lt_trichotomy j T with h1 | h1 | h1
    · have e2 : smI (fun c => S.h j c * y c) n = b j := by
        rw [← row_solved h hj (m := T) h1 (by omega) (hgood j h1)]
        refine smI_congr fun c hc => ?_
        rw [hy]
        show S.h j c * (if c < kk T then ySol S pv kk b T c else 0) = _
        by_cases e : c < kk T
        · rw [if_pos e]
        · rw [stair_hi h (by omega) h1 (by omega) hc, Int.zero_mul, Int.zero_mul]
      rw [e2, if_neg (by omega)]; grind
    · have e2 : smI (fun c => S.h j c * y c) n = b j - leftS S pv kk b T := by
        rw [h1, row_sum h hT]
        have e3 : smI (fun c => S.h T c * y c) (kk T) = smI (fun i => S.h T i * ySol S pv kk b T i) (kk T) := smI_congr fun c hc => by rw [hy]; show _ * (if c < kk T then _ else _) = _; rw [if_pos hc]
        have e4 : y (kk T) = 0 := by rw [hy]; exact if_neg (Nat.lt_irrefl _)
        have e5 : leftS S pv kk b T = b T - smI (fun i => S.h T i * ySol S pv kk b T i) (kk T) := rfl
        rw [e3, e4]
        split <;> omega
      have ef : f j = q0 := by rw [hf, h1]; exact rsF_T (Nat.le_refl _)
      rw [e2, if_pos h1, ef, Rat.intCast_sub]; grind
    · have : f j = 0 := by rw [hf]; exact rsF_hi (Nat.le_refl _) h1
      rw [this, if_neg (by omega)]; grind
  rw [← hf, smQ_congr hrow, smQ_add, smQ_swap]
  rw [smQ_zero (f := fun c => smQ (fun j => f j * (S.h j c : Rat) * (y c : Rat)) R) fun c hc => ?_, smQ_single (f := fun j => if j = T then q0 * (leftS S pv kk b T : Rat) else 0) hT fun j _ hj => if_neg hj, if_pos rfl]
  · grind
  · have e : smQ (fun j => f j * (S.h j c : Rat) * (y c : Rat)) R = (y c : Rat) * colS S f R c := by
      unfold colS
      rw [← smQ_mul]
      exact smQ_congr fun j _ => by grind
    show smQ (fun j => f j * (S.h j c : Rat) * (y c : Rat)) R = 0
    rw [e]
    by_cases c1 : c < kk T
    · rw [hlow c c1]; grind
    · have : y c = 0 := by rw [hy]; exact if_neg c1
      rw [this, show ((0 : Int) : Rat) = 0 from rfl]; grind
end
section
variable {a : Nat → Nat → Int} {S : HX} {n R : Nat} {kk : Nat → Nat} {pv : Nat → Int} {b : Nat → Int} {T : Nat} {q0 : Rat}
/-- The sum of the rows is whole at each place. -/
theorem rs_whole (h : Piv S n R kk pv) (hi : InvH a n R S) (hT : T < R) (hq : q0 = oftS S pv kk b T) {c : Nat} (hcn : c < n) : ∃ w : Int, smQ (fun j => rsF S pv T q0 T j * (a j c : Rat)) R = (w : Rat) := by
  obtain ⟨f, hf⟩ : ∃ f, f = rsF S pv T q0 T := ⟨_, rfl⟩
  have hw : ∀ m, m ≤ n → ∃ w : Int, smQ (fun l => (S.v l c : Rat) * colS S f R l) m = (w : Rat) := by
    intro m
    induction m with
    | zero => exact fun _ => ⟨0, rfl⟩
    | succ m ih =>
      intro hm
      obtain ⟨w, hw⟩ := ih (by omega)
      obtain ⟨w2, hw2⟩ := colS_int (b := b) h hT hq (c := m) (by omega)
      rw [← hf] at hw2
      exact ⟨w + S.v m c * w2, by rw [smQ, hw, hw2, Rat.intCast_add, Rat.intCast_mul]⟩
  obtain ⟨w, hw⟩ := hw n (Nat.le_refl _)
  refine ⟨w, ?_⟩
  rw [← hf, ← hw]
  have ha : ∀ j, j < R → f j * (a j c : Rat) = smQ (fun l => f j * (S.h j l : Rat) * (S.v l c : Rat)) n := fun j hj => by
    have h1 := hi.vx (fun i => if i = c then 1 else 0) hj
    have e1 : smI (fun i => a j i * if i = c then 1 else 0) n = a j c := by
      rw [smI_single (f := fun i => a j i * if i = c then 1 else 0) hcn fun i _ hne => by rw [if_neg hne, Int.mul_zero], if_pos rfl, Int.mul_one]
    have e2 : ∀ l, smI (fun i => S.v l i * if i = c then 1 else 0) n = S.v l c := fun l => by
      rw [smI_single (f := fun i => S.v l i * if i = c then 1 else 0) hcn fun i _ hne => by rw [if_neg hne, Int.mul_zero], if_pos rfl, Int.mul_one]
    rw [e1, smI_congr fun l _ => by rw [e2 l]] at h1
    rw [← h1, smI_castQ, ← smQ_mul]
    exact smQ_congr fun l _ => by rw [Rat.intCast_mul]; grind
  rw [smQ_congr ha, smQ_swap]
  refine smQ_congr fun l _ => ?_
  unfold colS
  rw [← smQ_mul]
  exact smQ_congr fun j _ => by grind
/-- What the right sides make isn't whole. -/
theorem rs_broken (h : Piv S n R kk pv) (hT : T < R) (hq : q0 = oftS S pv kk b T) (hbad : badS S pv kk b T) (w : Int) : q0 * (leftS S pv kk b T : Rat) ≠ (w : Rat) := by
  obtain ⟨l, hl⟩ : ∃ l, l = leftS S pv kk b T := ⟨_, rfl⟩
  unfold badS at hbad
  unfold oftS at hq
  rw [← hl] at hbad hq ⊢
  rcases h.row T hT with ⟨h1, _⟩ | ⟨h1, h2, h3, _⟩
  · rw [if_pos h1] at hbad hq
    intro e
    have hne : (l : Rat) ≠ 0 := by
      intro h0
      have : l = 0 := by exact_mod_cast h0
      exact hbad this
    rw [hq, Rat.divInt_eq_div, Rat.div_def, Rat.intCast_add] at e
    have e2 : (((1 : Int)) : Rat) = ((2 * w : Int) : Rat) := by
      rw [Rat.intCast_mul, ← e]
      have h1 : (((1 : Int)) : Rat) = 1 := rfl
      have h2 : (((2 : Int)) : Rat) = 2 := rfl
      rw [h1, h2]
      generalize (l : Rat) = p at *
      have : p + p ≠ 0 := by grind
      grind
    have : (1 : Int) = 2 * w := by exact_mod_cast e2
    omega
  · rw [if_neg (by omega)] at hbad hq
    intro e
    have hne : (S.h T (kk T) : Rat) ≠ 0 := by
      intro h0
      have : S.h T (kk T) = 0 := by exact_mod_cast h0
      omega
    rw [hq, Rat.divInt_eq_div, Rat.div_def] at e
    have e2 : (l : Rat) = ((S.h T (kk T) * w : Int) : Rat) := by
      rw [Rat.intCast_mul, ← e]
      have h1 : (((1 : Int)) : Rat) = 1 := rfl
      rw [h1]
      generalize (S.h T (kk T) : Rat) = p at *
      generalize (l : Rat) = q at *
      grind
    have e3 : l = S.h T (kk T) * w := by exact_mod_cast e2
    rw [e3] at hbad
    exact hbad (Int.mul_fmod_right _ _)
end
end Go.Abs
