/- At every input the call answers true and leaves its arguments as they were; no conditions. -/
import Derived.Test.YtfgejnedaijjiaaGreatQb
set_option linter.unusedSimpArgs false
set_option linter.unusedVariables false
namespace Go.Proofs.YtfgejnedaijjiaaGreat
open Go Go.Abs
set_option maxHeartbeats 4000000
theorem q_Held_e (x : Rat) (hx : lQ x < 4000) : PCall Tryz.prog 73 [eQ x] (eQ x) := by
  have nx := lQ_num x
  have dx := lQ_den x
  have := q_Held (decide (x.num < 0)) (dig x.num.natAbs) (dig x.den) (by unfold lN at nx; omega) (by rw [lN_nat'] at dx; omega)
  rwa [qv_eQ] at this
theorem q_Is_e (x : Rat) (hx : lQ x < 4000) : PCall Tryz.prog 115 [eQ x] (tB true) := by
  have nx := lQ_num x
  have dx := lQ_den x
  exact tB_of (q_Is (decide (x.num < 0)) (dig x.num.natAbs) (dig x.den) (by unfold lN at nx; omega) (by rw [lN_nat'] at dx; omega)) (IsQ_eQ x)
theorem q_Rat_e (x : Rat) : PCall Tryz.prog 77 [eQ x] (eQ x) := q_Rat _ _ _
set_option maxRecDepth 100000 in
theorem q_Floor (s : Bool) (a d : List Nat) (ha : a.length < 1900) (hd : d.length < 1900) : PCall Tryz.prog 92 [gQ s a d] (eI ((qv s a d)).floor) := by
  refine pcall_of_wpA mixed Tryz.call92 Tryz.func92 rfl Tryz.ntmps92 Tryz.results92 (by simp) (by decide) ?_
  have hx := q_Held s a d (by omega) (by omega)
  have lx := lQ_qv s a d
  generalize qv s a d = x at *
  have hf := q_NFloor x (by omega)
  simp only [go_sem]
  (repeat (first | (refine regA_by 0 rfl ?_; simp only [go_sem]) | (refine call_pure (hx) rfl ?_; simp only [go_sem]) | (refine call_pure (hf) rfl ?_; simp only [go_sem])))
  exact fz_agg2 .t .t
theorem q_Floor_e (x : Rat) (hx : lQ x < 1900) : PCall Tryz.prog 92 [eQ x] (eI (x).floor) := by
  have nx := lQ_num x
  have dx := lQ_den x
  rw [lN_nat'] at dx
  unfold lN at nx
  have := q_Floor (decide (x.num < 0)) (dig x.num.natAbs) (dig x.den) (by omega) (by omega)
  rwa [qv_eQ] at this
set_option maxRecDepth 100000 in
theorem q_Ceil (s : Bool) (a d : List Nat) (ha : a.length < 1900) (hd : d.length < 1900) : PCall Tryz.prog 89 [gQ s a d] (eI (-(-(qv s a d)).floor)) := by
  refine pcall_of_wpA mixed Tryz.call89 Tryz.func89 rfl Tryz.ntmps89 Tryz.results89 (by simp) (by decide) ?_
  have hx := q_Held s a d (by omega) (by omega)
  have lx := lQ_qv s a d
  generalize qv s a d = x at *
  have hm := q_Minus x (by omega)
  have hf := q_NFloor (-x) (by rw [lQ_neg]; omega)
  have hn := w_Neg_e (-x).floor (by have := lN_floor (-x); have := lQ_num (-x); rw [lQ_neg] at this; omega)
  simp only [go_sem]
  (repeat (first | (refine regA_by 0 rfl ?_; simp only [go_sem]) | (refine call_pure (hx) rfl ?_; simp only [go_sem]) | (refine call_pure (hm) rfl ?_; simp only [go_sem]) | (refine call_pure (hf) rfl ?_; simp only [go_sem]) | (refine call_pure (hn) rfl ?_; simp only [go_sem])))
  exact fz_agg2 .t .t
theorem q_Ceil_e (x : Rat) (hx : lQ x < 1900) : PCall Tryz.prog 89 [eQ x] (eI (-(-x).floor)) := by
  have nx := lQ_num x
  have dx := lQ_den x
  rw [lN_nat'] at dx
  unfold lN at nx
  have := q_Ceil (decide (x.num < 0)) (dig x.num.natAbs) (dig x.den) (by omega) (by omega)
  rwa [qv_eQ] at this
set_option maxRecDepth 100000 in
theorem q_Whole (s : Bool) (a d : List Nat) (ha : a.length < 1900) (hd : d.length < 1900) : PCall Tryz.prog 85 [gQ s a d] (tB (decide (((qv s a d)).den = 1))) := by
  refine pcall_of_wpA mixed Tryz.call85 Tryz.func85 rfl Tryz.ntmps85 Tryz.results85 (by simp) (by decide) ?_
  have hx := q_Held s a d (by omega) (by omega)
  have lx := lQ_qv s a d
  generalize qv s a d = x at *
  have ho := q_one_e x
  simp only [go_sem]
  (repeat (first | (refine regA_by 0 rfl ?_; simp only [go_sem]) | (refine call_pure (hx) rfl ?_; simp only [go_sem]) | (refine call_pure (ho) rfl ?_; simp only [go_sem])))
theorem q_Whole_e (x : Rat) (hx : lQ x < 1900) : PCall Tryz.prog 85 [eQ x] (tB (decide ((x).den = 1))) := by
  have nx := lQ_num x
  have dx := lQ_den x
  rw [lN_nat'] at dx
  unfold lN at nx
  have := q_Whole (decide (x.num < 0)) (dig x.num.natAbs) (dig x.den) (by omega) (by omega)
  rwa [qv_eQ] at this
end Go.Proofs.YtfgejnedaijjiaaGreat
namespace Go.Proofs.YtfgejnedaijjiaaGreat
open Go Go.Abs
set_option maxHeartbeats 4000000
set_option maxRecDepth 100000 in
theorem r_EqualRat (s : Bool) (a d : List Nat) (t : Bool) (b e : List Nat) (ha : a.length < 4000) (hd : d.length < 4000) (hb : b.length < 4000) (he : e.length < 4000) : PCall Tryz.prog 31 [gQ s a d, gQ t b e] (tB (decide ((s = t ∧ a = b) ∧ d = e))) := by
  refine pcall_of_wpA mixed Tryz.call31 Tryz.func31 rfl Tryz.ntmps31 Tryz.results31 (by simp) (by decide) ?_
  have h1 := i_Equal s a t b (by omega) (by omega)
  have h2 := r_SameNat d e (by omega) (by omega)
  simp only [go_sem]
  refine call_pure h1 rfl ?_
  by_cases h : s = t ∧ a = b
  · have e1 : (s = t ∧ a = b) = True := eq_true h
    simp only [go_sem, e1]
    refine call_pure h2 rfl ?_
    simp only [go_sem]
    try simp [h]
  · have e1 : (s = t ∧ a = b) = False := eq_false h
    simp only [go_sem, e1]
    simp
theorem r_EqualRat_e (x y : Rat) (hx : lQ x < 4000) (hy : lQ y < 4000) : PCall Tryz.prog 31 [eQ x, eQ y] (tB (decide (x = y))) := by
  have nx := lQ_num x
  have dx := lQ_den x
  have ny := lQ_num y
  have dy := lQ_den y
  rw [lN_nat'] at dx dy
  unfold lN at nx ny
  have := r_EqualRat (decide (x.num < 0)) (dig x.num.natAbs) (dig x.den) (decide (y.num < 0)) (dig y.num.natAbs) (dig y.den) (by omega) (by omega) (by omega) (by omega)
  have e : ((decide (x.num < 0) = decide (y.num < 0) ∧ dig x.num.natAbs = dig y.num.natAbs) ∧ dig x.den = dig y.den) ↔ x = y := by
    rw [eI_inj]
    exact ⟨fun h => Rat.ext h.1 (by have := congrArg val h.2; rwa [val_dig, val_dig] at this), fun h => by rw [h]; exact ⟨rfl, rfl⟩⟩
  rwa [decide_eq_decide.2 e] at this
set_option maxRecDepth 100000 in
theorem r_IsRat (s : Bool) (a d : List Nat) (ha : a.length < 4000) (hd : d.length < 4000) : PCall Tryz.prog 18 [gQ s a d] (tB (decide (IsQ s a d))) := by
  refine pcall_of_wpA mixed Tryz.call18 Tryz.func18 rfl Tryz.ntmps18 Tryz.results18 (by simp) (by decide) ?_
  have i1 := i_Is s a (by omega)
  have i2 := r_IsNat d (by omega)
  simp only [go_sem]
  refine call_pure i1 rfl ?_
  by_cases hI : IsI s a
  · simp only [go_sem, hI]
    refine call_pure i2 rfl ?_
    by_cases hN : IsN d
    · have e : (0 < (d.length : Int)) = (¬ d = []) := by rw [eq_iff_iff]; cases d <;> simp
      simp only [go_sem, hN, e]
      by_cases h0 : d = []
      · have e0 : (d = []) = True := eq_true h0
        simp only [go_sem, e0]
        simp [IsQ, h0]
      · have hg := i_Gcd s a false d (by omega) (by omega)
        have hv : iv false d = (val d : Int) := by unfold iv; rw [if_pos ⟨hN, .inr rfl⟩]; simp
        rw [hv] at hg
        have hlg := lN_gcd (iv s a) (val d)
        have hl1 := lN_iv s a
        have hl2 : lN (val d : Int) = d.length := by rw [lN_nat', hN.trimZ]
        have hs := r_SameNat (dig (Int.gcd (iv s a) (val d))) [1] (by rw [lN_nat'] at hlg; omega) (by simp)
        have ef : decide (IsQ s a d) = decide (dig (Int.gcd (iv s a) (val d)) = [1]) := by
          rw [decide_eq_decide, dig_one_iff]
          unfold IsQ
          exact ⟨fun h => h.2.2.2, fun h => ⟨hI, hN, h0, h⟩⟩
        rw [ef]
        have e0 : ∀ m : Nat, eI (m : Int) = gI false (dig m) := fun m => by unfold eI; rw [decide_eq_false (by omega)]; rfl
        rw [e0] at hg
        simp only [go_sem, h0]
        (repeat (first | (refine regA_by 0 rfl ?_; simp only [go_sem]) | (refine call_pure (hg) rfl ?_; simp only [go_sem])))
        refine call_fz (tvs' := [tN (dig (Int.gcd (iv s a) (val d))), .one (.seq (some false) [[.lit (.int .u32 1)]])]) hs rfl (.cons (.one .t) (.cons (.one .weak) .nil)) ?_
        simp only [go_sem]
    · simp only [go_sem, hN]
      simp [IsQ, hN]
  · simp only [go_sem, hI]
    simp [IsQ, hI]
set_option maxRecDepth 100000 in
theorem r_MayRat (s : Bool) (a d : List Nat) (ha : a.length < 4000) (hd : d.length < 4000) : PCall Tryz.prog 59 [gQ s a d] (eQ (qv s a d)) := by
  refine pcall_of_wpA mixed Tryz.call59 Tryz.func59 rfl Tryz.ntmps59 Tryz.results59 (by simp) (by decide) ?_
  have i1 := r_IsRat s a d ha hd
  simp only [go_sem]
  refine call_pure i1 rfl ?_
  by_cases h : IsQ s a d
  · rw [← eQ_qv h]
    simp only [go_sem, h]
    exact fz_agg3 .t .t .t
  · rw [show qv s a d = 0 from if_neg h, eQ_zero]
    simp only [go_sem, h]
    exact fz_agg3 .t .weak .weak
theorem r_MayRat_e (x : Rat) (hx : lQ x < 4000) : PCall Tryz.prog 59 [eQ x] (eQ x) := by
  have nx := lQ_num x
  have dx := lQ_den x
  have := r_MayRat (decide (x.num < 0)) (dig x.num.natAbs) (dig x.den) (by unfold lN at nx; omega) (by rw [lN_nat'] at dx; omega)
  rwa [qv_eQ] at this
set_option maxRecDepth 100000 in
theorem r_SignRat (s : Bool) (a d : List Nat) (ha : a.length < 4000) (hd : d.length < 4000) : PCall Tryz.prog 16 [gQ s a d] (tI .i64 (qv s a d).num.sign) := by
  refine pcall_of_wpA mixed Tryz.call16 Tryz.func16 rfl Tryz.ntmps16 Tryz.results16 (by simp) (by decide) ?_
  have h1 := r_MayRat s a d ha hd
  have lx := lQ_qv s a d
  have nx := lQ_num (qv s a d)
  have h2 := i_Sign_e (qv s a d).num (by omega)
  simp only [go_sem]
  (repeat (first | (refine regA_by 0 rfl ?_; simp only [go_sem]) | (refine call_pure (h1) rfl ?_; simp only [go_sem]) | (refine call_pure (h2) rfl ?_; simp only [go_sem])))
theorem r_SignRat_e (x : Rat) (hx : lQ x < 4000) : PCall Tryz.prog 16 [eQ x] (tI .i64 x.num.sign) := by
  have nx := lQ_num x
  have dx := lQ_den x
  have := r_SignRat (decide (x.num < 0)) (dig x.num.natAbs) (dig x.den) (by unfold lN at nx; omega) (by rw [lN_nat'] at dx; omega)
  rwa [qv_eQ] at this
set_option maxRecDepth 100000 in
theorem r_RatOf (s : Bool) (a : List Nat) (t : Bool) (b : List Nat) (ha : a.length < 4000) (hb : b.length < 4000) : PCall Tryz.prog 49 [gI s a, gI t b] (eQ (Rat.divInt (iv s a) (iv t b))) := by
  refine pcall_of_wpA mixed Tryz.call49 Tryz.func49 rfl Tryz.ntmps49 Tryz.results49 (by simp) (by decide) ?_
  have hs := i_Sign t b (by omega)
  have hg := i_Gcd s a t b (by omega) (by omega)
  have l1 := lN_iv s a
  have l2 := lN_iv t b
  by_cases hq : iv t b = 0
  · rw [hq] at hs
    rw [show (0 : Int).sign = 0 from rfl] at hs
    rw [hq, Rat.divInt_zero, eQ_zero]
    simp only [go_sem]
    (repeat (first | (refine regA_by 0 rfl ?_; simp only [go_sem]) | (refine call_pure (hs) rfl ?_; simp only [go_sem])))
    exact fz_agg3 .t .weak .weak
  · obtain ⟨k1, k2⟩ := ratOf_law (iv s a) hq
    have hlg := lN_gcd (iv s a) (iv t b)
    have f1 : ∀ g : Int, lN g < 100000 → PCall Tryz.prog 94 [gI s a, eI g] (.tup [eI (Int.fdiv (iv s a) g), eI (Int.fmod (iv s a) g)]) := fun g hg => by
      have := i_Floor s a (decide (g < 0)) (dig g.natAbs) (by omega) hg; rwa [iv_eI] at this
    have f2 : ∀ g : Int, lN g < 100000 → PCall Tryz.prog 94 [gI t b, eI g] (.tup [eI (Int.fdiv (iv t b) g), eI (Int.fmod (iv t b) g)]) := fun g hg => by
      have := i_Floor t b (decide (g < 0)) (dig g.natAbs) (by omega) hg; rwa [iv_eI] at this
    have hne := sign_ne hq
    have hN := i_Neg_e (Int.gcd (iv s a) (iv t b) : Int) (by omega)
    have fin : ∀ x y : Int, x = (Rat.divInt (iv s a) (iv t b)).num → y = ((Rat.divInt (iv s a) (iv t b)).den : Int) → eQ (Rat.divInt (iv s a) (iv t b)) = gQ (decide (x < 0)) (dig x.natAbs) (dig y.natAbs) := fun x y hx hy => by rw [hx, hy]; rfl
    by_cases hn : iv t b < 0
    · rw [if_pos hn] at k1 k2
      have hs1 : (iv t b).sign = -1 := Int.sign_eq_neg_one_of_neg hn
      rw [hs1] at hs
      have g1 := f1 (-(Int.gcd (iv s a) (iv t b) : Int)) (by rw [lN_neg]; omega)
      have g2 := f2 (-(Int.gcd (iv s a) (iv t b) : Int)) (by rw [lN_neg]; omega)
      rw [fin _ _ k1.symm k2.symm]
      simp only [go_sem]
      (repeat (first | (refine regA_by 0 rfl ?_; simp only [go_sem]) | (refine call_pure (hs) rfl ?_; simp only [go_sem]) | (refine call_pure (hg) rfl ?_; simp only [go_sem]) | (refine call_pure (hN) rfl ?_; simp only [go_sem]) | (refine call_pure (g1) rfl ?_; simp only [go_sem]) | (refine call_pure (g2) rfl ?_; simp only [go_sem])))
      exact fz_agg3 .t .t .t
    · rw [if_neg hn] at k1 k2
      have hs1 : (iv t b).sign = 1 := Int.sign_eq_one_of_pos (by omega)
      rw [hs1] at hs
      have g1 := f1 (Int.gcd (iv s a) (iv t b) : Int) (by omega)
      have g2 := f2 (Int.gcd (iv s a) (iv t b) : Int) (by omega)
      rw [fin _ _ k1.symm k2.symm]
      simp only [go_sem]
      (repeat (first | (refine regA_by 0 rfl ?_; simp only [go_sem]) | (refine call_pure (hs) rfl ?_; simp only [go_sem]) | (refine call_pure (hg) rfl ?_; simp only [go_sem]) | (refine call_pure (g1) rfl ?_; simp only [go_sem]) | (refine call_pure (g2) rfl ?_; simp only [go_sem])))
      exact fz_agg3 .t .t .t
theorem r_RatOf_e (p q : Int) (ha : lN p < 4000) (hb : lN q < 4000) : PCall Tryz.prog 49 [eI p, eI q] (eQ (Rat.divInt p q)) := by
  have := r_RatOf (decide (p < 0)) (dig p.natAbs) (decide (q < 0)) (dig q.natAbs) ha hb; rwa [iv_eI, iv_eI] at this
end Go.Proofs.YtfgejnedaijjiaaGreat
