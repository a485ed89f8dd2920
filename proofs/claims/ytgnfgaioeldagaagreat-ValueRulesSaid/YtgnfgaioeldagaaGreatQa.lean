/- At every input the call answers true and leaves its arguments as they were; no conditions. -/
import Derived.Test.YtgnfgaioeldagaaGreatIb
set_option linter.unusedSimpArgs false
set_option linter.unusedVariables false
namespace Go.Proofs.YtgnfgaioeldagaaGreat
open Go Go.Abs
set_option maxHeartbeats 4000000
theorem lN_small {z : Int} (h : z.natAbs < 1000000000) : lN z ≤ 1 := lN_of (by rw [Nat.pow_one]; exact h)
theorem tB_of {P : Program} {f : FuncId} {xs : List TV} {p : Prop} [Decidable p] (h : PCall P f xs (tB (decide p))) (hp : p) : PCall P f xs (tB true) := by rwa [decide_eq_true hp] at h
theorem tB_not {P : Program} {f : FuncId} {xs : List TV} {p : Prop} [Decidable p] (h : PCall P f xs (tB (decide p))) (hp : ¬ p) : PCall P f xs (tB false) := by rwa [decide_eq_false hp] at h

theorem cmpI_le {x y : Int} (h : x ≤ y) : cmpI x y ≤ 0 := by unfold cmpI; repeat' split
                                                             all_goals omega
theorem cmpI_lt {x y : Int} (h : x < y) : cmpI x y = -1 := by unfold cmpI; rw [if_pos h]
theorem cmpI_gt {x y : Int} (h : y < x) : cmpI x y = 1 := by unfold cmpI; rw [if_neg (by omega), if_pos h]
theorem cmpI_eq {x y : Int} (h : x = y) : cmpI x y = 0 := by unfold cmpI; rw [if_neg (by omega), if_neg (by omega)]
theorem i_Is_e (x : Int) (hl : lN x < 30000000000000) : PCall Tryz.prog 85 [eI x] (tB true) := tB_of (i_Is (decide (x < 0)) (dig x.natAbs) hl) (IsI_eI x)
theorem sign_range (x : Int) : -9223372036854775808 ≤ x.sign ∧ x.sign < 9223372036854775808 := by
  rcases sign3 x with ⟨h, e⟩ | ⟨h, e⟩ | ⟨h, e⟩ <;> rw [e] <;> omega
theorem i_OfSign (x : Int) : PCall Tryz.prog 34 [tI .i64 x.sign] (eI x.sign) := i_Of _ (sign_range x).1 (sign_range x).2

theorem lN_lcm (x y : Int) : lN (Int.lcm x y : Int) ≤ lN x + lN y := by
  refine Nat.le_trans (lN_le (y := x * y) ?_) (lN_mul x y)
  rw [Int.natAbs_natCast, Int.natAbs_mul]
  exact Nat.div_le_self _ _
theorem sign_zero {x : Int} : x.sign = 0 ↔ x = 0 := Int.sign_eq_zero_iff_zero
theorem iv_is {s : Bool} {a : List Nat} (h : iv s a ≠ 0) : IsI s a := by
  by_cases hI : IsI s a
  · exact hI
  · exact absurd (if_neg hI) h


theorem _root_.Go.Abs.RC.weakS {w : World} {ok : Nat → Prop} {ρ : Nat → Option Nat} {nl : Option Bool} {xs : List (List T)} {v : Value} (h : RC w ok ρ (.t (.seq nl xs)) v) : RC w ok ρ (.t (.seq none xs)) v := by
  cases h with
  | t h => cases h with
    | seq g1 g2 g0 g3 g4 g5 g6 g7 g8 => exact .t (.seq g1 g2 g0 (fun e => by cases e) (fun e => by cases e) g5 g6 g7 g8)
/-- It may be forgotten whether a cell's slice is nil. -/
theorem gstep_weakH2 {σ : St} (b : Nat) {c0 : C} {nl : Option Bool} {xs : List (List T)} (hb : σ.H b = some [c0, .t (.seq nl xs)]) : Go.Abs.GStep σ (σ.withH (upd σ.H b (some [c0, .t (.seq none xs)]))) := by
  intro ρ ok a w h
  refine ⟨ρ, ok, ⟨⟨fun b' cs' hb' => ?_, fun b' hb' => ?_, h.inj, h.okR⟩, h.size, h.slots, h.defers, h.small⟩, Goes.refl ρ ok w⟩
  · simp only [St.withH, upd] at hb'
    split at hb'
    · rename_i e; subst e; cases hb'
      obtain ⟨c, arr, el, k1, k2, k3, k4⟩ := h.heap _ _ hb
      refine ⟨c, arr, el, k1, k2, k3, fun j hj hj' => ?_⟩
      have hj2 : j < 2 := hj
      have := k4 j hj hj'
      match j, hj2 with
      | 0, _ => exact this
      | 1, _ => exact this.weakS
    · exact h.heap b' cs' hb'
  · simp only [St.withH, upd] at hb'
    split at hb'
    · cases hb'
    · exact h.dom b' hb'
theorem emod_lt' (x : Int) {y : Int} (hy : y ≠ 0) : x % y < (y.natAbs : Int) := by
  by_cases h : 0 < y
  · have := Int.emod_lt_of_pos x h; omega
  · have := Int.emod_lt_of_pos x (show 0 < -y by omega)
    rw [Int.emod_neg] at this; omega
theorem lN_emod (x y : Int) : lN (x % y) ≤ max (lN x) (lN y) := by
  by_cases hy : y = 0
  · subst hy; rw [Int.emod_zero]; omega
  · have h1 := Int.emod_nonneg x hy
    have h2 := emod_lt' x hy
    have : lN (x % y) ≤ lN y := lN_le (by omega)
    omega
theorem divR_lt {m n : Nat} {up : Bool} (hn : 0 < n) : divR m n up < n := by
  have := Nat.mod_lt m hn
  unfold divR; split <;> omega
theorem divQ_le {m n : Nat} {up : Bool} : divQ m n up ≤ m + 1 := by
  have := Nat.div_le_self m n
  unfold divQ; split <;> omega
theorem lN_fdiv (x y : Int) : lN (Int.fdiv x y) ≤ lN x + 1 := by
  by_cases hy : y = 0
  · subst hy; rw [Int.fdiv_zero]; unfold lN; simp [dig_zero]
  · apply lN_of
    have h1 := lt_lN x
    have law := (floor_law x y hy).1
    have h2 := divQ_le (m := x.natAbs) (n := y.natAbs) (up := decide (x < 0) != decide (y < 0))
    generalize divQ x.natAbs y.natAbs (decide (x < 0) != decide (y < 0)) = q at *
    have h3 : (Int.fdiv x y).natAbs = q := by rw [law]; split <;> simp only [Int.natAbs_neg, Int.natAbs_natCast]
    have h4 : 0 < BB ^ lN x := Nat.pow_pos (by decide)
    rw [BB_pow_succ]; omega
theorem fmod_facts (x : Int) {y : Int} (hy : y ≠ 0) : Int.fmod x y = 0 ∨ ((Int.fmod x y).sign = y.sign ∧ (Int.fmod x y).natAbs < y.natAbs) := by
  have law := (floor_law x y hy).2
  have h2 := divR_lt (m := x.natAbs) (n := y.natAbs) (up := decide (x < 0) != decide (y < 0)) (by omega)
  generalize divR x.natAbs y.natAbs (decide (x < 0) != decide (y < 0)) = r at *
  rw [law]
  by_cases hr : r = 0
  · left; subst hr; split <;> rfl
  · right
    split
    · rename_i h
      refine ⟨?_, by rw [Int.natAbs_neg, Int.natAbs_natCast]; exact h2⟩
      rw [Int.sign_eq_neg_one_of_neg h, Int.sign_eq_neg_one_of_neg (by omega)]
    · rename_i h
      refine ⟨?_, by rw [Int.natAbs_natCast]; exact h2⟩
      rw [Int.sign_eq_one_of_pos (show 0 < y by omega), Int.sign_eq_one_of_pos (by omega)]
theorem lN_fmod (x y : Int) : lN (Int.fmod x y) ≤ max (lN x) (lN y) := by
  by_cases hy : y = 0
  · subst hy; rw [Int.fmod_zero]; omega
  · have : lN (Int.fmod x y) ≤ lN y := lN_le (by rcases fmod_facts x hy with h | ⟨_, h⟩ <;> omega)
    omega
theorem sign_ne {x : Int} (h : x ≠ 0) : ¬ x.sign = 0 := fun e => h (sign_zero.1 e)
theorem lN_zero : lN 0 = 0 := by unfold lN; simp [dig_zero]
end Go.Proofs.YtgnfgaioeldagaaGreat
namespace Go.Proofs.YtgnfgaioeldagaaGreat
open Go Go.Abs
set_option maxHeartbeats 1000000
/-- A fraction in memory. -/
abbrev gQ (s : Bool) (a d : List Nat) : TV := .agg [.lit (.bool s), eN a, eN d]
def IsQ (s : Bool) (a d : List Nat) : Prop := IsI s a ∧ IsN d ∧ d ≠ [] ∧ Int.gcd (iv s a) (val d : Int) = 1
instance (s : Bool) (a d : List Nat) : Decidable (IsQ s a d) := by unfold IsQ; exact inferInstance
/-- What a fraction in memory is worth: 0 what isn't one. -/
def qv (s : Bool) (a d : List Nat) : Rat := if IsQ s a d then mkRat (iv s a) (val d) else 0
/-- A fraction as it is kept. -/
abbrev eQ (r : Rat) : TV := gQ (decide (r.num < 0)) (dig r.num.natAbs) (dig r.den)

theorem IsQ.pos {s : Bool} {a d : List Nat} (h : IsQ s a d) : val d ≠ 0 := fun e => h.2.2.1 ((val_eq_zero h.2.1).1 e)
theorem IsQ.parts {s : Bool} {a d : List Nat} (h : IsQ s a d) : (qv s a d).num = iv s a ∧ (qv s a d).den = val d := by
  unfold qv
  rw [if_pos h, ← Rat.mk_eq_mkRat (iv s a) (val d) h.pos h.2.2.2]
  exact ⟨rfl, rfl⟩
theorem eQ_qv {s : Bool} {a d : List Nat} (h : IsQ s a d) : gQ s a d = eQ (qv s a d) := by
  obtain ⟨h1, h2⟩ := h.parts
  unfold eQ
  rw [h1, h2]
  have e := eI_iv h.1
  unfold eI at e
  injection e with e
  injection e with e1 e2
  injection e1 with e1
  injection e1 with e1
  injection e2 with e2 _
  have e3 : dig (val d) = d := h.2.1.trimZ
  show TV.agg [.lit (.bool s), eN a, eN d] = TV.agg [.lit (.bool (decide (iv s a < 0))), eN (dig (iv s a).natAbs), eN (dig (val d))]
  rw [← e1, ← e2, e3]
theorem IsQ_eQ (r : Rat) : IsQ (decide (r.num < 0)) (dig r.num.natAbs) (dig r.den) := by
  refine ⟨IsI_eI _, IsN_dig _, fun e => r.den_nz (dig_eq_nil.1 e), ?_⟩
  rw [iv_eI, val_dig]; exact r.reduced
theorem qv_eQ (r : Rat) : qv (decide (r.num < 0)) (dig r.num.natAbs) (dig r.den) = r := by
  obtain ⟨h1, h2⟩ := (IsQ_eQ r).parts
  rw [iv_eI] at h1; rw [val_dig] at h2
  exact Rat.ext h1 h2
theorem dig_one : dig 1 = [1] := by
  rw [dig_pos (by decide)]; simp [BB, dig_zero]
theorem eQ_zero : eQ 0 = gQ false [] [1] := by
  unfold eQ; simp [dig_zero, dig_one]
theorem eQ_int (p : Int) : eQ (p : Rat) = gQ (decide (p < 0)) (dig p.natAbs) [1] := by
  unfold eQ; rw [show ((p : Rat)).num = p from rfl, show ((p : Rat)).den = 1 from rfl, dig_one]
theorem eQ_inj {x y : Rat} : eQ x = eQ y ↔ x = y := by
  refine ⟨fun h => ?_, fun h => by rw [h]⟩
  rw [← qv_eQ x, ← qv_eQ y]
  unfold eQ at h
  injection h with h
  injection h with h1 h2
  injection h1 with h1
  injection h1 with h1
  injection h2 with h2 h3
  injection h3 with h3 _
  have i1 : ∀ {u v : List Nat}, eN u = eN v → u = v := fun {u v} e => by
    injection e with e1 e2
    exact (List.map_inj_right (fun x y e => by injection e with e _; injection e with e; injection e with _ e; omega)).1 e2
  rw [h1, i1 h2, i1 h3]

/-- What RatOf tells. -/
theorem ratOf_law (p : Int) {q : Int} (hq : q ≠ 0) : (Rat.divInt p q).num = Int.fdiv p (if q < 0 then -(Int.gcd p q : Int) else (Int.gcd p q : Int)) ∧ ((Rat.divInt p q).den : Int) = Int.fdiv q (if q < 0 then -(Int.gcd p q : Int) else (Int.gcd p q : Int)) := by
  obtain ⟨G, hG⟩ : ∃ G, G = Int.gcd p q := ⟨_, rfl⟩
  have hg0 : G ≠ 0 := by
    rw [hG]; exact fun e => hq (Int.gcd_eq_zero_iff.1 e).2
  obtain ⟨k, hk⟩ := Int.gcd_dvd_left p q
  obtain ⟨m, hm⟩ := Int.gcd_dvd_right p q
  rw [Rat.num_divInt, Rat.den_divInt, if_neg hq, Int.gcd_comm q p]
  rw [← hG] at hk hm ⊢
  have hGi : (G : Int) ≠ 0 := by omega
  have hd : q.natAbs / G = m.natAbs := by
    rw [hm, Int.natAbs_mul, Int.natAbs_natCast, Nat.mul_div_cancel_left _ (by omega)]
  rw [hd]
  by_cases hn : q < 0
  · rw [if_pos hn, Int.sign_eq_neg_one_of_neg hn]
    have hm0 : m < 0 := by
      by_cases h : m < 0
      · exact h
      · have : 0 ≤ (G : Int) * m := Int.mul_nonneg (by omega) (by omega)
        omega
    have e1 : -1 * p = (G : Int) * -k := by rw [hk, Int.mul_neg, Int.neg_mul, Int.one_mul]
    have e2 : p = -(G : Int) * -k := by rw [hk, Int.neg_mul_neg]
    have e3 : q = -(G : Int) * -m := by rw [hm, Int.neg_mul_neg]
    refine ⟨?_, ?_⟩
    · rw [e1, Int.mul_ediv_cancel_left _ hGi, e2, Int.mul_fdiv_cancel_left _ (by omega)]
    · rw [e3, Int.mul_fdiv_cancel_left _ (by omega)]; omega
  · rw [if_neg hn, Int.sign_eq_one_of_pos (by omega), Int.one_mul]
    have hm0 : 0 ≤ m := by
      by_cases h : m < 0
      · have := Int.mul_neg_of_pos_of_neg (show 0 < (G : Int) by omega) h
        omega
      · omega
    refine ⟨?_, ?_⟩
    · rw [hk, Int.mul_ediv_cancel_left _ hGi, Int.mul_fdiv_cancel_left _ hGi]
    · rw [hm, Int.mul_fdiv_cancel_left _ hGi]; omega

/-- What a shortening tells. -/
theorem short_law (n : Int) {d : Nat} (hd : d ≠ 0) : (mkRat n d).num = (if n < 0 then -((n.natAbs / Int.gcd n d : Nat) : Int) else ((n.natAbs / Int.gcd n d : Nat) : Int)) ∧ (mkRat n d).den = d / Int.gcd n d := by
  have hg : Int.gcd n d = d.gcd n.natAbs := by unfold Int.gcd; rw [Int.natAbs_natCast, Nat.gcd_comm]
  rw [Rat.num_mkRat, Rat.den_mkRat, if_neg hd, if_neg hd, hg]
  refine ⟨?_, rfl⟩
  obtain ⟨k, hk⟩ := Nat.gcd_dvd_right d n.natAbs
  have hg0 : 0 < d.gcd n.natAbs := Nat.gcd_pos_of_pos_left _ (by omega)
  generalize d.gcd n.natAbs = g at *
  rw [hk, Nat.mul_div_cancel_left _ hg0]
  by_cases hn : n < 0
  · rw [if_pos hn, show n = (g : Int) * -(k : Int) by rw [Int.mul_neg, ← Int.natCast_mul, ← hk]; omega, Int.mul_ediv_cancel_left _ (by omega)]
  · rw [if_neg hn, show n = (g : Int) * (k : Int) by rw [← Int.natCast_mul, ← hk]; omega, Int.mul_ediv_cancel_left _ (by omega)]

/-- The order of two fractions. -/
def cmpQ (x y : Rat) : Int := (x - y).num.sign
theorem sign_mkRat (n : Int) {d : Nat} (hd : d ≠ 0) : (mkRat n d).num.sign = n.sign := by
  obtain ⟨h, _⟩ := short_law n hd
  rw [h]
  have hg : Int.gcd n d ≠ 0 := fun e => hd (by have := (Int.gcd_eq_zero_iff.1 e).2; omega)
  have hk : n ≠ 0 → 0 < n.natAbs / Int.gcd n d := fun hn => Nat.div_pos (Nat.le_of_dvd (by omega) (by have := Int.natAbs_dvd_natAbs.2 (Int.gcd_dvd_left n d); rwa [Int.natAbs_natCast] at this)) (by omega)
  rcases Int.lt_trichotomy n 0 with hn | hn | hn
  · have := hk (by omega)
    rw [if_pos hn, Int.sign_eq_neg_one_of_neg hn, Int.sign_eq_neg_one_of_neg (by omega)]
  · subst hn; simp
  · have := hk (by omega)
    rw [if_neg (by omega), Int.sign_eq_one_of_pos hn, Int.sign_eq_one_of_pos (by omega)]
theorem cmpQ_cross (x y : Rat) : cmpQ x y = cmpI (x.num * y.den) (y.num * x.den) := by
  unfold cmpQ
  rw [Rat.sub_def', sign_mkRat _ (Nat.mul_ne_zero x.den_nz y.den_nz)]
  rcases Int.lt_trichotomy (x.num * y.den) (y.num * x.den) with h | h | h
  · rw [cmpI_lt h, Int.sign_eq_neg_one_of_neg (by omega)]
  · rw [cmpI_eq h, show x.num * y.den - y.num * x.den = 0 by omega]; rfl
  · rw [cmpI_gt h, Int.sign_eq_one_of_pos (by omega)]
theorem cmpQ_lt {x y : Rat} : cmpQ x y < 0 ↔ x < y := by
  rw [cmpQ_cross, Rat.lt_iff]; unfold cmpI; split <;> (try split) <;> omega
theorem cmpQ_eq {x y : Rat} : cmpQ x y = 0 ↔ x = y := by
  unfold cmpQ
  rw [Int.sign_eq_zero_iff_zero, Rat.num_eq_zero]
  exact ⟨fun h => by rw [← Rat.sub_add_cancel (a := x) (b := y), h, Rat.zero_add], fun h => by rw [h, Rat.sub_self]⟩
theorem cmpQ_gt {x y : Rat} : 0 < cmpQ x y ↔ y < x := by
  rw [cmpQ_cross, Rat.lt_iff]; unfold cmpI; split <;> (try split) <;> omega
theorem cmpQ_range (x y : Rat) : cmpQ x y = -1 ∨ cmpQ x y = 0 ∨ cmpQ x y = 1 := by
  rw [cmpQ_cross]; unfold cmpI; split <;> (try split) <;> omega
end Go.Proofs.YtgnfgaioeldagaaGreat
namespace Go.Proofs.YtgnfgaioeldagaaGreat
open Go Go.Abs
set_option maxHeartbeats 4000000
/-- An element of a slice of integers. -/
def cI (p : Bool × List Nat) : List T := [.lit (.bool p.1), eN p.2]
theorem cI_len (p : Bool × List Nat) : (cI p).length = 2 := rfl
abbrev tLI (l : List (Bool × List Nat)) : TV := .one (eL cI l)
abbrev aLI (l : List (Bool × List Nat)) : AV := .one (.t (eL cI l))
/-- What divides all of some. -/
def gAll (l : List (Bool × List Nat)) : Nat := l.foldl (fun g p => Nat.gcd (iv p.1 p.2).natAbs g) 0
theorem gAll_snoc {l : List (Bool × List Nat)} {p : Bool × List Nat} : gAll (l ++ [p]) = Nat.gcd (iv p.1 p.2).natAbs (gAll l) := by unfold gAll; rw [List.foldl_append]; rfl
theorem gAll_len {N : Nat} : ∀ (l : List (Bool × List Nat)), (∀ p ∈ l, p.2.length ≤ N) → (dig (gAll l)).length ≤ N := by
  intro l
  suffices h : ∀ (l : List (Bool × List Nat)) (g : Nat), (dig g).length ≤ N → (∀ p ∈ l, p.2.length ≤ N) → (dig (l.foldl (fun g p => Nat.gcd (iv p.1 p.2).natAbs g) g)).length ≤ N from
    fun hl => h l 0 (by simp [dig_zero]) hl
  intro l
  induction l with
  | nil => intro g hg _; exact hg
  | cons p l ih =>
    intro g hg hl
    refine ih _ ?_ (fun q hq => hl q (by simp [hq]))
    have hp := lN_iv p.1 p.2
    have hp2 := hl p (by simp)
    have h1 := lt_lN (iv p.1 p.2)
    have hgl := val_lt (dig_lt g)
    rw [val_dig] at hgl
    have hlt : Nat.gcd (iv p.1 p.2).natAbs g < BB ^ max (lN (iv p.1 p.2)) (dig g).length := by
      by_cases hz : (iv p.1 p.2).natAbs = 0
      · rw [hz, Nat.gcd_zero_left]
        exact Nat.lt_of_lt_of_le hgl (Nat.pow_le_pow_right (by decide) (Nat.le_max_right ..))
      · exact Nat.lt_of_le_of_lt (Nat.gcd_le_left _ (by omega)) (Nat.lt_of_lt_of_le h1 (Nat.pow_le_pow_right (by decide) (Nat.le_max_left ..)))
    exact Nat.le_trans (dig_length_le hlt) (by omega)

end Go.Proofs.YtgnfgaioeldagaaGreat
