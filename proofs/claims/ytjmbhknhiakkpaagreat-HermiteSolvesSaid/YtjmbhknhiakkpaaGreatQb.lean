/- At every input the call answers true and leaves its arguments as they were; no conditions. -/
import Derived.Test.YtjmbhknhiakkpaaGreatQa
set_option linter.unusedSimpArgs false
set_option linter.unusedVariables false
namespace Go.Proofs.YtjmbhknhiakkpaaGreat
open Go Go.Abs
set_option maxHeartbeats 4000000
theorem fz_agg3 {H : Heap} {a b c : C} {x y z : T} (h1 : FzC H a x) (h2 : FzC H b y) (h3 : FzC H c z) : FzA H (.agg [a, b, c]) (.agg [x, y, z]) := .agg rfl fun j h h' => by
  match j, h, h' with
  | 0, _, _ => exact h1
  | 1, _, _ => exact h2
  | 2, _, _ => exact h3
  | j + 3, h, _ => simp at h; omega
set_option maxRecDepth 100000 in
theorem q_one (s : Bool) (a d : List Nat) : PCall Tryz.prog 90 [gQ s a d] (tB (decide (d = [1]))) := by
  refine pcall_of_wpA mixed Tryz.call90 Tryz.func90 rfl Tryz.ntmps90 Tryz.results90 (by simp) (by decide) ?_
  match d with
  | [] => simp only [go_sem] <;> decide
  | [x] =>
    have hel : elemD limb [x] 0 = [.lit (.int .u32 (x : Int))] := rfl
    simp only [go_sem, hel]
    simp
    omega
  | x :: y :: l =>
    have h1 : ((l.length : Int) + 1 + 1 = 1) = False := eq_false (by omega)
    simp only [go_sem, h1]
    simp
set_option maxRecDepth 100000 in
theorem q_Rat (s : Bool) (a d : List Nat) : PCall Tryz.prog 67 [gQ s a d] (gQ s a d) := by
  refine pcall_of_wpA mixed Tryz.call67 Tryz.func67 rfl Tryz.ntmps67 Tryz.results67 (by simp) (by decide) ?_
  simp only [go_sem]
  exact fz_agg3 .t .t .t
set_option maxRecDepth 100000 in
theorem q_below (s : Bool) (a d : List Nat) : PCall Tryz.prog 91 [gQ s a d] (gI false d) := by
  refine pcall_of_wpA mixed Tryz.call91 Tryz.func91 rfl Tryz.ntmps91 Tryz.results91 (by simp) (by decide) ?_
  simp only [go_sem]
  exact fz_agg2 .t .t
set_option maxRecDepth 100000 in
theorem q_Sign (s : Bool) (a d : List Nat) (ha : a.length < 1000000000000) : PCall Tryz.prog 92 [gQ s a d] (tI .i64 (iv s a).sign) := by
  refine pcall_of_wpA mixed Tryz.call92 Tryz.func92 rfl Tryz.ntmps92 Tryz.results92 (by simp) (by decide) ?_
  simp only [go_sem]
  refine call_pure (w_Sign s a (by omega)) rfl ?_
  simp only [go_sem]
set_option maxRecDepth 100000 in
theorem q_whole1 (s : Bool) (a : List Nat) : PCall Tryz.prog 68 [gI s a] (gQ s a [1]) := by
  refine pcall_of_wpA mixed Tryz.call68 Tryz.func68 rfl Tryz.ntmps68 Tryz.results68 (by simp) (by decide) ?_
  simp only [go_sem]
  exact fz_agg3 .t .t .weak
theorem q_one_e (x : Rat) : PCall Tryz.prog 90 [eQ x] (tB (decide (x.den = 1))) := by
  have := q_one (decide (x.num < 0)) (dig x.num.natAbs) (dig x.den)
  rwa [decide_eq_decide.2 dig_one_iff] at this
theorem q_Sign_e (x : Rat) (ha : lQ x < 1000000000000) : PCall Tryz.prog 92 [eQ x] (tI .i64 x.num.sign) := by
  have := q_Sign (decide (x.num < 0)) (dig x.num.natAbs) (dig x.den) (by have := lQ_num x; unfold lN at this; omega)
  rwa [iv_eI] at this
theorem q_below_e (x : Rat) : PCall Tryz.prog 91 [eQ x] (eI (x.den : Int)) := by
  have := q_below (decide (x.num < 0)) (dig x.num.natAbs) (dig x.den)
  rwa [show gI false (dig x.den) = eI (x.den : Int) by unfold eI; rw [decide_eq_false (by omega)]; rfl] at this
theorem q_whole1_e (p : Int) : PCall Tryz.prog 68 [eI p] (eQ (p : Rat)) := by
  have := q_whole1 (decide (p < 0)) (dig p.natAbs)
  rwa [← eQ_int] at this
/-- An integer that nobody has set. -/
abbrev gI0 : TV := .agg [.lit (.bool false), .seq (some true) []]
theorem q_whole1_0 : PCall Tryz.prog 68 [gI0] (eQ 0) := by
  have := q_whole1 false []
  rw [← eQ_zero] at this
  exact this.fz (.cons (fz_agg2 .t .weak) .nil)
theorem w_Add_0 (s : Bool) (a : List Nat) (ha : a.length < 1000000000000) : PCall Tryz.prog 42 [gI s a, gI0] (eI (iv s a)) := by
  have had := w_Add s a false [] (by omega) (by simp)
  rw [show iv false [] = 0 by decide, Int.add_zero] at had
  exact had.fz (.cons (fz_agg2 .t .t) (.cons (fz_agg2 .t .weak) .nil))
set_option maxRecDepth 100000 in
theorem q_Of1 (s : Bool) (a : List Nat) (ha : a.length < 1000000000000) : PCall Tryz.prog 61 [gI s a] (eQ ((iv s a : Int) : Rat)) := by
  refine pcall_of_wpA mixed Tryz.call61 Tryz.func61 rfl Tryz.ntmps61 Tryz.results61 (by simp) (by decide) ?_
  simp only [go_sem]
  refine call_pure (w_Add_0 s a ha) rfl ?_
  simp only [go_sem]
  refine call_pure (q_whole1_e _) rfl ?_
  simp only [go_sem]
  exact fz_agg3 .t .t .t

set_option maxRecDepth 100000 in
theorem q_short (n : Int) (d : Nat) (hd : d ≠ 0) (hn : lN n < 10000000000) (hdl : lN (d : Int) < 10000000000) : PCall Tryz.prog 70 [eI n, tN (dig d)] (eQ (mkRat n d)) := by
  rw [eQ_short n hd]
  refine pcall_of_wpA mixed Tryz.call70 Tryz.func70 rfl Tryz.ntmps70 Tryz.results70 (by simp) (by decide) ?_
  have hgo := g_Of (decide (n < 0)) (dig n.natAbs) false (dig d) (by unfold lN at hn; omega) (by rw [lN_nat'] at hdl; omega)
  rw [iv_eI, show iv false (dig d) = (d : Int) by have := iv_eI (d : Int); rwa [decide_eq_false (by omega)] at this] at hgo
  have hlg := lN_gcd n d
  have e0 : ∀ m : Nat, eI (m : Int) = gI false (dig m) := fun m => by unfold eI; rw [decide_eq_false (by omega)]; rfl
  rw [e0] at hgo
  have hd1 := p_nat_Div (dig n.natAbs) (dig (Int.gcd n d)) (by unfold lN at hn; omega) (by rw [lN_nat'] at hlg; omega)
  have hd2 := p_nat_Div (dig d) (dig (Int.gcd n d)) (by rw [lN_nat'] at hdl; omega) (by rw [lN_nat'] at hlg; omega)
  rw [vN_dig, vN_dig] at hd1 hd2
  simp only [go_sem]
  refine call_pure hgo rfl ?_
  by_cases h1 : Int.gcd n d = 1
  · have hel : elemD limb [1] 0 = [.lit (.int .u32 1)] := rfl
    rw [h1, Nat.div_one, Nat.div_one, dig_one]
    simp only [go_sem, hel]
    exact fz_agg3 .t .t .t
  · have hne : dig (Int.gcd n d) ≠ [1] := fun e => h1 (dig_one_iff.1 e)
    generalize Int.gcd n d = g at *
    generalize hk : dig g = k at *
    match k with
    | [] =>
      simp only [go_sem]
      (repeat (first | (refine regA_by 0 rfl ?_; simp only [go_sem]) | (refine call_pure (hd1) rfl ?_; simp only [go_sem]) | (refine call_pure (hd2) rfl ?_; simp only [go_sem])))
      exact fz_agg3 .t .t .t
    | [x] =>
      have hx : ((x : Int) = 1) = False := eq_false (by simp at hne; omega)
      have hel : elemD limb [x] 0 = [.lit (.int .u32 (x : Int))] := rfl
      simp only [go_sem, hel, hx]
      (repeat (first | (refine regA_by 0 rfl ?_; simp only [go_sem, hel, hx]) | (refine call_pure (hd1) rfl ?_; simp only [go_sem, hel, hx]) | (refine call_pure (hd2) rfl ?_; simp only [go_sem, hel, hx])))
      exact fz_agg3 .t .t .t
    | x :: y :: l =>
      have hx : ((l.length : Int) + 1 + 1 = 1) = False := eq_false (by omega)
      simp only [go_sem, hx]
      (repeat (first | (refine regA_by 0 rfl ?_; simp only [go_sem, hx]) | (refine call_pure (hd1) rfl ?_; simp only [go_sem, hx]) | (refine call_pure (hd2) rfl ?_; simp only [go_sem, hx])))
      exact fz_agg3 .t .t .t
theorem mkRat_add (x y : Rat) : mkRat (x.num * y.den + y.num * x.den) (x.den * y.den) = x + y := (Rat.add_def' x y).symm
set_option maxRecDepth 100000 in
theorem q_Plus (x y : Rat) (hx : lQ x < 4000000000) (hy : lQ y < 4000000000) : PCall Tryz.prog 63 [eQ x, eQ y] (eQ (x + y)) := by
  refine pcall_of_wpA mixed Tryz.call63 Tryz.func63 rfl Tryz.ntmps63 Tryz.results63 (by simp) (by decide) ?_
  have nx := lQ_num x
  have ny := lQ_num y
  have dx := lQ_den x
  have dy := lQ_den y
  simp only [go_sem]
  refine call_pure (q_one_e x) rfl ?_
  have hgen : PCall Tryz.prog 70 [eI (x.num * y.den + y.num * x.den), tN (dig (x.den * y.den))] (eQ (x + y)) := by
    have z1 := lN_mul x.num y.den
    have z2 := lN_mul y.num x.den
    have z3 := lN_mul x.den y.den
    have z4 := lN_add (x.num * y.den) (y.num * x.den)
    rw [← mkRat_add]
    exact q_short _ _ (Nat.mul_ne_zero x.den_nz y.den_nz) (by omega) (by rw [Int.natCast_mul]; omega)
  have m1 := w_Mul_e x.num y.den (by omega) (by omega)
  have m2 := w_Mul_e y.num x.den (by omega) (by omega)
  have m3 := w_Add_e (x.num * y.den) (y.num * x.den) (by have := lN_mul x.num y.den; omega) (by have := lN_mul y.num x.den; omega)
  have m4 := p_nat_Mul (dig x.den) (dig y.den) (by rw [lN_nat'] at dx; omega) (by rw [lN_nat'] at dy; omega)
  rw [vN_dig, vN_dig] at m4
  have b1 := q_below_e x
  have b2 := q_below_e y
  by_cases h1 : x.den = 1
  · have e1 : (x.den = 1) = True := eq_true h1
    simp only [go_sem, e1]
    refine call_pure (q_one_e y) rfl ?_
    by_cases h2 : y.den = 1
    · have ad := w_Add_e x.num y.num (by omega) (by omega)
      have wh := q_whole1_e (x.num + y.num)
      rw [show ((x.num + y.num : Int) : Rat) = x + y by rw [Rat.intCast_add, ← int_of_den h1, ← int_of_den h2]] at wh
      have e2 : (y.den = 1) = True := eq_true h2
      simp only [go_sem, e1, e2]
      refine call_pure ad rfl ?_
      simp only [go_sem]
      refine call_pure wh rfl ?_
      simp only [go_sem]
      exact fz_agg3 .t .t .t
    · simp only [go_sem, h2]
      (repeat (first | (refine regA_by 0 rfl ?_; simp only [go_sem]) | (refine call_pure (b1) rfl ?_; simp only [go_sem]) | (refine call_pure (b2) rfl ?_; simp only [go_sem]) | (refine call_pure (m1) rfl ?_; simp only [go_sem]) | (refine call_pure (m2) rfl ?_; simp only [go_sem]) | (refine call_pure (m3) rfl ?_; simp only [go_sem]) | (refine call_pure (m4) rfl ?_; simp only [go_sem]) | (refine call_pure (hgen) rfl ?_; simp only [go_sem])))
      exact fz_agg3 .t .t .t
  · simp only [go_sem, h1]
    (repeat (first | (refine regA_by 0 rfl ?_; simp only [go_sem]) | (refine call_pure (b1) rfl ?_; simp only [go_sem]) | (refine call_pure (b2) rfl ?_; simp only [go_sem]) | (refine call_pure (m1) rfl ?_; simp only [go_sem]) | (refine call_pure (m2) rfl ?_; simp only [go_sem]) | (refine call_pure (m3) rfl ?_; simp only [go_sem]) | (refine call_pure (m4) rfl ?_; simp only [go_sem]) | (refine call_pure (hgen) rfl ?_; simp only [go_sem])))
    exact fz_agg3 .t .t .t
end Go.Proofs.YtjmbhknhiakkpaaGreat
namespace Go.Proofs.YtjmbhknhiakkpaaGreat
open Go Go.Abs
set_option maxHeartbeats 4000000
set_option maxRecDepth 100000 in
theorem q_Minus (x : Rat) (hx : lQ x < 4000000000) : PCall Tryz.prog 66 [eQ x] (eQ (-x)) := by
  refine pcall_of_wpA mixed Tryz.call66 Tryz.func66 rfl Tryz.ntmps66 Tryz.results66 (by simp) (by decide) ?_
  have nx := lQ_num x
  have hn := w_Neg_e x.num (by omega)
  simp only [go_sem]
  refine regA_by 0 rfl ?_
  simp only [go_sem]
  refine call_pure hn rfl ?_
  simp only [go_sem]
  exact fz_agg3 .t .t .t
set_option maxRecDepth 100000 in
theorem q_Times (x y : Rat) (hx : lQ x < 4000000000) (hy : lQ y < 4000000000) : PCall Tryz.prog 64 [eQ x, eQ y] (eQ (x * y)) := by
  refine pcall_of_wpA mixed Tryz.call64 Tryz.func64 rfl Tryz.ntmps64 Tryz.results64 (by simp) (by decide) ?_
  have nx := lQ_num x
  have ny := lQ_num y
  have dx := lQ_den x
  have dy := lQ_den y
  simp only [go_sem]
  refine call_pure (q_one_e x) rfl ?_
  have hgen : PCall Tryz.prog 70 [eI (x.num * y.num), tN (dig (x.den * y.den))] (eQ (x * y)) := by
    have z1 := lN_mul x.num y.num
    have z3 := lN_mul x.den y.den
    rw [Rat.mul_def']
    exact q_short _ _ (Nat.mul_ne_zero x.den_nz y.den_nz) (by omega) (by rw [Int.natCast_mul]; omega)
  have m1 := w_Mul_e x.num y.num (by omega) (by omega)
  have m4 := p_nat_Mul (dig x.den) (dig y.den) (by rw [lN_nat'] at dx; omega) (by rw [lN_nat'] at dy; omega)
  rw [vN_dig, vN_dig] at m4
  by_cases h1 : x.den = 1
  · have e1 : (x.den = 1) = True := eq_true h1
    simp only [go_sem, e1]
    refine call_pure (q_one_e y) rfl ?_
    by_cases h2 : y.den = 1
    · have wh := q_whole1_e (x.num * y.num)
      rw [show ((x.num * y.num : Int) : Rat) = x * y by rw [Rat.intCast_mul, ← int_of_den h1, ← int_of_den h2]] at wh
      have e2 : (y.den = 1) = True := eq_true h2
      simp only [go_sem, e1, e2]
      refine call_pure m1 rfl ?_
      simp only [go_sem]
      refine call_pure wh rfl ?_
      simp only [go_sem]
      exact fz_agg3 .t .t .t
    · simp only [go_sem, h2]
      (repeat (first | (refine regA_by 0 rfl ?_; simp only [go_sem]) | (refine call_pure (m1) rfl ?_; simp only [go_sem]) | (refine call_pure (m4) rfl ?_; simp only [go_sem]) | (refine call_pure (hgen) rfl ?_; simp only [go_sem])))
      exact fz_agg3 .t .t .t
  · simp only [go_sem, h1]
    (repeat (first | (refine regA_by 0 rfl ?_; simp only [go_sem]) | (refine call_pure (m1) rfl ?_; simp only [go_sem]) | (refine call_pure (m4) rfl ?_; simp only [go_sem]) | (refine call_pure (hgen) rfl ?_; simp only [go_sem])))
    exact fz_agg3 .t .t .t
theorem eQ_inv {x : Rat} (h : x.num ≠ 0) : eQ x⁻¹ = gQ (decide (x.num < 0)) (dig x.den) (dig x.num.natAbs) := by
  unfold eQ
  have hd := x.den_nz
  rw [Rat.num_inv, Rat.den_inv, if_neg h, Int.natAbs_mul, Int.natAbs_natCast]
  rcases sign3 x.num with ⟨h0, e⟩ | ⟨h0, e⟩ | ⟨h0, e⟩
  · rw [e]
    rw [decide_eq_true (show (-1 : Int) * (x.den : Int) < 0 by omega), decide_eq_true h0, show (-1 : Int).natAbs * x.den = x.den by simp]
  · exact absurd h0 h
  · rw [e]
    rw [decide_eq_false (show ¬ (1 : Int) * (x.den : Int) < 0 by omega), decide_eq_false (show ¬ x.num < 0 by omega), show (1 : Int).natAbs * x.den = x.den by simp]
set_option maxRecDepth 100000 in
theorem q_Over (x : Rat) (hx : lQ x < 4000000000) : PCall Tryz.prog 65 [eQ x] (eQ x⁻¹) := by
  by_cases h : x.num = 0
  · have hs := q_Sign_e x (by omega)
    rw [h, show (0 : Int).sign = 0 from rfl] at hs
    rw [show x⁻¹ = 0 by rw [Rat.num_eq_zero.1 h, Rat.inv_zero]]
    refine pcall_of_wpA mixed Tryz.call65 Tryz.func65 rfl Tryz.ntmps65 Tryz.results65 (by simp) (by decide) ?_
    simp only [go_sem]
    refine call_pure hs rfl ?_
    simp only [go_sem]
    refine call_pure q_whole1_0 rfl ?_
    simp only [go_sem]
    exact fz_agg3 .t .t .t
  · have hs := q_Sign_e x (by omega)
    have hne := sign_ne h
    rw [eQ_inv h]
    refine pcall_of_wpA mixed Tryz.call65 Tryz.func65 rfl Tryz.ntmps65 Tryz.results65 (by simp) (by decide) ?_
    simp only [go_sem]
    refine call_pure hs rfl ?_
    simp only [go_sem, hne]
    exact fz_agg3 .t .t .t
set_option maxRecDepth 100000 in
theorem q_Is (s : Bool) (a d : List Nat) (ha : a.length < 4000000000) (hd : d.length < 4000000000) : PCall Tryz.prog 89 [gQ s a d] (tB (decide (IsQ s a d))) := by
  refine pcall_of_wpA mixed Tryz.call89 Tryz.func89 rfl Tryz.ntmps89 Tryz.results89 (by simp) (by decide) ?_
  have i1 := w_Is s a (by omega)
  have i2 := p_nat_Is d (by omega)
  simp only [go_sem]
  refine call_pure i1 rfl ?_
  by_cases hI : IsI s a
  · simp only [go_sem, hI]
    refine call_pure i2 rfl ?_
    by_cases hN : IsN d
    · have e : ((d.length : Int) = 0) = (d = []) := by rw [eq_iff_iff]; cases d <;> simp; omega
      simp only [go_sem, hN, e]
      by_cases h0 : d = []
      · have e0 : (d = []) = True := eq_true h0
        simp only [go_sem, e0]
        simp [IsQ, h0]
      · have hg := g_Of s a false d (by omega) (by omega)
        have hv : iv false d = (val d : Int) := by unfold iv; rw [if_pos ⟨hN, .inr rfl⟩]; simp
        rw [hv] at hg
        have hlg := lN_gcd (iv s a) (val d)
        have hl1 := lN_iv s a
        have hl2 : lN (val d : Int) = d.length := by rw [lN_nat', hN.trimZ]
        have ho := w_Of_e 1 (by omega) (by omega)
        have hs := w_Same_e (Int.gcd (iv s a) (val d)) 1 (by omega) (by have := lN_one; omega)
        have ef : decide (IsQ s a d) = decide ((Int.gcd (iv s a) (val d) : Int) = 1) := by
          rw [decide_eq_decide]
          unfold IsQ
          exact ⟨fun h => by rw [h.2.2.2]; rfl, fun h => ⟨hI, hN, h0, by omega⟩⟩
        rw [ef]
        simp only [go_sem, h0]
        (repeat (first | (refine regA_by 0 rfl ?_; simp only [go_sem]) | (refine call_pure (hg) rfl ?_; simp only [go_sem]) | (refine call_pure (ho) rfl ?_; simp only [go_sem]) | (refine call_pure (hs) rfl ?_; simp only [go_sem])))
    · simp only [go_sem, hN]
      simp [IsQ, hN]
  · simp only [go_sem, hI]
    simp [IsQ, hI]
set_option maxRecDepth 100000 in
theorem q_Held (s : Bool) (a d : List Nat) (ha : a.length < 4000000000) (hd : d.length < 4000000000) : PCall Tryz.prog 62 [gQ s a d] (eQ (qv s a d)) := by
  refine pcall_of_wpA mixed Tryz.call62 Tryz.func62 rfl Tryz.ntmps62 Tryz.results62 (by simp) (by decide) ?_
  have i1 := q_Is s a d ha hd
  simp only [go_sem]
  refine call_pure i1 rfl ?_
  by_cases h : IsQ s a d
  · rw [← eQ_qv h]
    simp only [go_sem, h]
    exact fz_agg3 .t .t .t
  · rw [show qv s a d = 0 from if_neg h]
    simp only [go_sem, h]
    refine call_pure q_whole1_0 rfl ?_
    simp only [go_sem]
    exact fz_agg3 .t .t .t
end Go.Proofs.YtjmbhknhiakkpaaGreat
