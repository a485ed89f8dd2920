/- At every input the call answers true and leaves its arguments as they were; no conditions. -/
import Derived.Test.YtjmbhknhiakkpaaGreatQb
set_option linter.unusedSimpArgs false
set_option linter.unusedVariables false
namespace Go.Proofs.YtjmbhknhiakkpaaGreat
open Go Go.Abs
set_option maxHeartbeats 4000000
theorem q_Held_e (x : Rat) (hx : lQ x < 4000000000) : PCall Tryz.prog 62 [eQ x] (eQ x) := by
  have nx := lQ_num x
  have dx := lQ_den x
  have := q_Held (decide (x.num < 0)) (dig x.num.natAbs) (dig x.den) (by unfold lN at nx; omega) (by rw [lN_nat'] at dx; omega)
  rwa [qv_eQ] at this
theorem q_Is_e (x : Rat) (hx : lQ x < 4000000000) : PCall Tryz.prog 89 [eQ x] (tB true) := by
  have nx := lQ_num x
  have dx := lQ_den x
  exact tB_of (q_Is (decide (x.num < 0)) (dig x.num.natAbs) (dig x.den) (by unfold lN at nx; omega) (by rw [lN_nat'] at dx; omega)) (IsQ_eQ x)
theorem q_Rat_e (x : Rat) : PCall Tryz.prog 67 [eQ x] (eQ x) := q_Rat _ _ _
set_option maxRecDepth 100000 in
theorem q_Of (s : Bool) (a : List Nat) (t : Bool) (b : List Nat) (ha : a.length < 4000000000) (hb : b.length < 4000000000) : PCall Tryz.prog 40 [gI s a, gI t b] (eQ (Rat.divInt (iv s a) (iv t b))) := by
  refine pcall_of_wpA mixed Tryz.call40 Tryz.func40 rfl Tryz.ntmps40 Tryz.results40 (by simp) (by decide) ?_
  have hs := w_Sign t b (by omega)
  have hA := w_Abs t b (by omega)
  have hN := w_Neg s a (by omega)
  have h0 := w_Add_0 s a (by omega)
  have l1 := lN_iv s a
  have l2 := lN_iv t b
  generalize iv s a = p at *
  generalize iv t b = q at *
  simp only [go_sem]
  refine call_pure hs rfl ?_
  have e0 : ∀ m : Nat, eI (m : Int) = gI false (dig m) := fun m => by unfold eI; rw [decide_eq_false (by omega)]; rfl
  rw [e0] at hA
  by_cases hq : q = 0
  · have e : (0 : Int).sign = 0 := rfl
    subst hq
    rw [Rat.divInt_zero]
    have r0 := q_Rat_e 0
    simp only [go_sem, e]
    (repeat (first | (refine regA_by 0 rfl ?_; simp only [go_sem]) | (refine call_pure (q_whole1_0) rfl ?_; simp only [go_sem]) | (refine call_pure (r0) rfl ?_; simp only [go_sem])))
    exact fz_agg3 .t .t .t
  · have hne := sign_ne hq
    have hqn : q.natAbs ≠ 0 := by omega
    have r0 := q_Rat_e (Rat.divInt p q)
    simp only [go_sem, hne]
    refine call_pure hs rfl ?_
    by_cases hn : q < 0
    · have hs1 : q.sign = -1 := Int.sign_eq_neg_one_of_neg hn
      have h3 := w_Add_0 (decide (-p < 0)) (dig (-p).natAbs) (by have := lN_neg p; unfold lN at this l1; omega)
      rw [iv_eI] at h3
      have sh := q_short (-p) q.natAbs hqn (by rw [lN_neg]; omega) (by rw [lN_abs]; omega)
      rw [← Rat.divInt_ofNat, show ((q.natAbs : Nat) : Int) = -q by omega, Rat.neg_divInt_neg] at sh
      simp only [go_sem, hs1]
      refine call_pure hN rfl ?_
      simp only [go_sem]
      (repeat (first | (refine regA_by 0 rfl ?_; simp only [go_sem]) | (refine call_pure (h3) rfl ?_; simp only [go_sem]) | (refine call_pure (hA) rfl ?_; simp only [go_sem]) | (refine call_pure (sh) rfl ?_; simp only [go_sem]) | (refine call_pure (r0) rfl ?_; simp only [go_sem])))
      exact fz_agg3 .t .t .t
    · have hs1 : q.sign = 1 := Int.sign_eq_one_of_pos (by omega)
      have sh := q_short p q.natAbs hqn (by omega) (by rw [lN_abs]; omega)
      rw [← Rat.divInt_ofNat, show ((q.natAbs : Nat) : Int) = q by omega] at sh
      simp only [go_sem, hs1]
      (repeat (first | (refine regA_by 0 rfl ?_; simp only [go_sem]) | (refine call_pure (h0) rfl ?_; simp only [go_sem]) | (refine call_pure (hA) rfl ?_; simp only [go_sem]) | (refine call_pure (sh) rfl ?_; simp only [go_sem]) | (refine call_pure (r0) rfl ?_; simp only [go_sem])))
      exact fz_agg3 .t .t .t
theorem q_Of_e (p q : Int) (ha : lN p < 4000000000) (hb : lN q < 4000000000) : PCall Tryz.prog 40 [eI p, eI q] (eQ (Rat.divInt p q)) := by
  have := q_Of (decide (p < 0)) (dig p.natAbs) (decide (q < 0)) (dig q.natAbs) ha hb; rwa [iv_eI, iv_eI] at this
theorem q_Of_0 (p : Int) (ha : lN p < 4000000000) : PCall Tryz.prog 40 [eI p, gI0] (eQ 0) := by
  have := q_Of (decide (p < 0)) (dig p.natAbs) false [] ha (by simp)
  rw [show iv false [] = 0 by decide, Rat.divInt_zero] at this
  exact this.fz (.cons (fz_agg2 .t .t) (.cons (fz_agg2 .t .weak) .nil))
end Go.Proofs.YtjmbhknhiakkpaaGreat
namespace Go.Proofs.YtjmbhknhiakkpaaGreat
open Go Go.Abs
set_option maxHeartbeats 4000000
set_option maxRecDepth 100000 in
theorem r_IsRat (s : Bool) (a d : List Nat) (ha : a.length < 4000000000) (hd : d.length < 4000000000) : PCall Tryz.prog 27 [gQ s a d] (tB (decide (IsQ s a d))) := by
  refine pcall_of_wpA mixed Tryz.call27 Tryz.func27 rfl Tryz.ntmps27 Tryz.results27 (by simp) (by decide) ?_
  have i1 := i_Is s a (by omega)
  have i2 := r_IsNat d (by omega)
  simp only [go_sem]
  refine call_pure i1 rfl ?_
  by_cases hI : IsI s a
  · simp only [go_sem, hI]
    refine call_pure i2 rfl ?_
    by_cases hN : IsN d
    · have e : (0 < (d.length : Int)) = (¬ d = []) := by rw [eq_iff_iff]; cases d <;> simp
      simp only [go_sem, hN, e]
      by_cases h0 : d = []
      · have e0 : (d = []) = True := eq_true h0
        simp only [go_sem, e0]
        simp [IsQ, h0]
      · have hg := i_Gcd s a false d (by omega) (by omega)
        have hv : iv false d = (val d : Int) := by unfold iv; rw [if_pos ⟨hN, .inr rfl⟩]; simp
        rw [hv] at hg
        have hlg := lN_gcd (iv s a) (val d)
        have hl1 := lN_iv s a
        have hl2 : lN (val d : Int) = d.length := by rw [lN_nat', hN.trimZ]
        have hs := r_SameNat (dig (Int.gcd (iv s a) (val d))) [1] (by rw [lN_nat'] at hlg; omega) (by simp)
        have ef : decide (IsQ s a d) = decide (dig (Int.gcd (iv s a) (val d)) = [1]) := by
          rw [decide_eq_decide, dig_one_iff]
          unfold IsQ
          exact ⟨fun h => h.2.2.2, fun h => ⟨hI, hN, h0, h⟩⟩
        rw [ef]
        have e0 : ∀ m : Nat, eI (m : Int) = gI false (dig m) := fun m => by unfold eI; rw [decide_eq_false (by omega)]; rfl
        rw [e0] at hg
        simp only [go_sem, h0]
        (repeat (first | (refine regA_by 0 rfl ?_; simp only [go_sem]) | (refine call_pure (hg) rfl ?_; simp only [go_sem])))
        refine call_fz (tvs' := [tN (dig (Int.gcd (iv s a) (val d))), .one (.seq (some false) [[.lit (.int .u32 1)]])]) hs rfl (.cons (.one .t) (.cons (.one .weak) .nil)) ?_
        simp only [go_sem]
    · simp only [go_sem, hN]
      simp [IsQ, hN]
  · simp only [go_sem, hI]
    simp [IsQ, hI]
set_option maxRecDepth 100000 in
theorem r_MayRat (s : Bool) (a d : List Nat) (ha : a.length < 4000000000) (hd : d.length < 4000000000) : PCall Tryz.prog 52 [gQ s a d] (eQ (qv s a d)) := by
  refine pcall_of_wpA mixed Tryz.call52 Tryz.func52 rfl Tryz.ntmps52 Tryz.results52 (by simp) (by decide) ?_
  have i1 := r_IsRat s a d ha hd
  simp only [go_sem]
  refine call_pure i1 rfl ?_
  by_cases h : IsQ s a d
  · rw [← eQ_qv h]
    simp only [go_sem, h]
    exact fz_agg3 .t .t .t
  · rw [show qv s a d = 0 from if_neg h, eQ_zero]
    simp only [go_sem, h]
    exact fz_agg3 .t .weak .weak
theorem r_MayRat_e (x : Rat) (hx : lQ x < 4000000000) : PCall Tryz.prog 52 [eQ x] (eQ x) := by
  have nx := lQ_num x
  have dx := lQ_den x
  have := r_MayRat (decide (x.num < 0)) (dig x.num.natAbs) (dig x.den) (by unfold lN at nx; omega) (by rw [lN_nat'] at dx; omega)
  rwa [qv_eQ] at this
set_option maxRecDepth 100000 in
theorem r_RatOf (s : Bool) (a : List Nat) (t : Bool) (b : List Nat) (ha : a.length < 4000000000) (hb : b.length < 4000000000) : PCall Tryz.prog 53 [gI s a, gI t b] (eQ (Rat.divInt (iv s a) (iv t b))) := by
  refine pcall_of_wpA mixed Tryz.call53 Tryz.func53 rfl Tryz.ntmps53 Tryz.results53 (by simp) (by decide) ?_
  have hs := i_Sign t b (by omega)
  have hg := i_Gcd s a t b (by omega) (by omega)
  have l1 := lN_iv s a
  have l2 := lN_iv t b
  by_cases hq : iv t b = 0
  · rw [hq] at hs
    rw [show (0 : Int).sign = 0 from rfl] at hs
    rw [hq, Rat.divInt_zero, eQ_zero]
    simp only [go_sem]
    (repeat (first | (refine regA_by 0 rfl ?_; simp only [go_sem]) | (refine call_pure (hs) rfl ?_; simp only [go_sem])))
    exact fz_agg3 .t .weak .weak
  · obtain ⟨k1, k2⟩ := ratOf_law (iv s a) hq
    have hlg := lN_gcd (iv s a) (iv t b)
    have f1 : ∀ g : Int, lN g < 100000000000 → PCall Tryz.prog 82 [gI s a, eI g] (.tup [eI (Int.fdiv (iv s a) g), eI (Int.fmod (iv s a) g)]) := fun g hg => by
      have := i_Floor s a (decide (g < 0)) (dig g.natAbs) (by omega) hg; rwa [iv_eI] at this
    have f2 : ∀ g : Int, lN g < 100000000000 → PCall Tryz.prog 82 [gI t b, eI g] (.tup [eI (Int.fdiv (iv t b) g), eI (Int.fmod (iv t b) g)]) := fun g hg => by
      have := i_Floor t b (decide (g < 0)) (dig g.natAbs) (by omega) hg; rwa [iv_eI] at this
    have hne := sign_ne hq
    have hN := i_Neg_e (Int.gcd (iv s a) (iv t b) : Int) (by omega)
    have fin : ∀ x y : Int, x = (Rat.divInt (iv s a) (iv t b)).num → y = ((Rat.divInt (iv s a) (iv t b)).den : Int) → eQ (Rat.divInt (iv s a) (iv t b)) = gQ (decide (x < 0)) (dig x.natAbs) (dig y.natAbs) := fun x y hx hy => by rw [hx, hy]; rfl
    by_cases hn : iv t b < 0
    · rw [if_pos hn] at k1 k2
      have hs1 : (iv t b).sign = -1 := Int.sign_eq_neg_one_of_neg hn
      rw [hs1] at hs
      have g1 := f1 (-(Int.gcd (iv s a) (iv t b) : Int)) (by rw [lN_neg]; omega)
      have g2 := f2 (-(Int.gcd (iv s a) (iv t b) : Int)) (by rw [lN_neg]; omega)
      rw [fin _ _ k1.symm k2.symm]
      simp only [go_sem]
      (repeat (first | (refine regA_by 0 rfl ?_; simp only [go_sem]) | (refine call_pure (hs) rfl ?_; simp only [go_sem]) | (refine call_pure (hg) rfl ?_; simp only [go_sem]) | (refine call_pure (hN) rfl ?_; simp only [go_sem]) | (refine call_pure (g1) rfl ?_; simp only [go_sem]) | (refine call_pure (g2) rfl ?_; simp only [go_sem])))
      exact fz_agg3 .t .t .t
    · rw [if_neg hn] at k1 k2
      have hs1 : (iv t b).sign = 1 := Int.sign_eq_one_of_pos (by omega)
      rw [hs1] at hs
      have g1 := f1 (Int.gcd (iv s a) (iv t b) : Int) (by omega)
      have g2 := f2 (Int.gcd (iv s a) (iv t b) : Int) (by omega)
      rw [fin _ _ k1.symm k2.symm]
      simp only [go_sem]
      (repeat (first | (refine regA_by 0 rfl ?_; simp only [go_sem]) | (refine call_pure (hs) rfl ?_; simp only [go_sem]) | (refine call_pure (hg) rfl ?_; simp only [go_sem]) | (refine call_pure (g1) rfl ?_; simp only [go_sem]) | (refine call_pure (g2) rfl ?_; simp only [go_sem])))
      exact fz_agg3 .t .t .t
theorem r_RatOf_e (p q : Int) (ha : lN p < 4000000000) (hb : lN q < 4000000000) : PCall Tryz.prog 53 [eI p, eI q] (eQ (Rat.divInt p q)) := by
  have := r_RatOf (decide (p < 0)) (dig p.natAbs) (decide (q < 0)) (dig q.natAbs) ha hb; rwa [iv_eI, iv_eI] at this
end Go.Proofs.YtjmbhknhiakkpaaGreat
