/- At every input the call answers true and leaves its arguments as they were; no conditions. -/
import Derived.Test.YtpnmoecjhannnaaGreatQc
set_option linter.unusedSimpArgs false
set_option linter.unusedVariables false
namespace Go.Proofs.YtpnmoecjhannnaaGreat
open Go Go.Abs
set_option maxHeartbeats 4000000
theorem tB_iff {P : Program} {f : FuncId} {xs : List TV} {p q : Prop} [Decidable p] [Decidable q] (h : PCall P f xs (tB (decide p))) (e : p ↔ q) : PCall P f xs (tB (decide q)) := by rwa [← decide_eq_decide.2 e]
set_option maxRecDepth 100000 in
theorem frac5 (p q : Int) (h1 : -9223372036854775808 ≤ p) (h2 : p < 9223372036854775808) (h3 : -9223372036854775808 ≤ q) (h4 : q < 9223372036854775808) (ha : lN p < 1000) (hb : lN q < 1000) : PCall Tryz.prog 35 [tI .i64 p, tI .i64 q] (eQ (Rat.divInt p q)) := by
  refine pcall_of_wpA mixed Tryz.call35 Tryz.func35 rfl Tryz.ntmps35 Tryz.results35 (by simp) (by decide) ?_
  have o1 := i_Of p h1 h2
  have o2 := i_Of q h3 h4
  have o3 := r_RatOf_e p q ha hb
  simp only [go_sem]
  (repeat (first | (refine regA_by 0 rfl ?_; simp only [go_sem]) | (refine call_pure (o1) rfl ?_; simp only [go_sem]) | (refine call_pure (o2) rfl ?_; simp only [go_sem]) | (refine call_pure (o3) rfl ?_; simp only [go_sem])))
  exact fz_agg3 .t .t .t
theorem frac5s (p q : Int) (h1 : p.natAbs < 1000) (h2 : q.natAbs < 1000) : PCall Tryz.prog 35 [tI .i64 p, tI .i64 q] (eQ (Rat.divInt p q)) :=
  frac5 p q (by omega) (by omega) (by omega) (by omega) (by have := lN_small (z := p) (by omega); omega) (by have := lN_small (z := q) (by omega); omega)
theorem lQ_small (p q : Int) (h1 : p.natAbs < 1000) (h2 : q.natAbs < 1000) : lQ (Rat.divInt p q) ≤ 1 := by
  have := lQ_divInt p q
  have a := lN_small (z := p) (by omega)
  have b := lN_small (z := q) (by omega)
  omega
set_option maxRecDepth 100000 in
theorem few5 (s : Bool) (a d : List Nat) : PCall Tryz.prog 5 [gQ s a d] (tB (decide (a.length ≤ 4 ∧ d.length ≤ 4))) := by
  refine pcall_of_wpA mixed Tryz.call5 Tryz.func5 rfl Tryz.ntmps5 Tryz.results5 (by simp) (by decide) ?_
  simp only [go_sem]
  by_cases h : a.length ≤ 4
  · have e : ((a.length : Int) ≤ 4) = True := eq_true (by omega)
    simp only [go_sem, e]
    rw [decide_eq_decide]; omega
  · have e : ((a.length : Int) ≤ 4) = False := eq_false (by omega)
    simp only [go_sem, e]
    simp; omega
set_option maxRecDepth 100000 in
theorem known5 : PCall Tryz.prog 4 [] (tB true) := by
  refine pcall_of_wpA mixed Tryz.call4 Tryz.func4 rfl Tryz.ntmps4 Tryz.results4 (by simp) (by decide) ?_
  have o6 := i_Of 6 (by decide) (by decide)
  have o4 := i_Of (-4) (by decide) (by decide)
  have om2 := i_Of (-2) (by decide) (by decide)
  have om1 := i_Of (-1) (by decide) (by decide)
  have qa := q_Of_e 6 (-4) (by have := lN_small (z := 6) (by decide); omega) (by have := lN_small (z := -4) (by decide); omega)
  have f1 := frac5s 1 2 (by decide) (by decide)
  have f2 := frac5s 0 1 (by decide) (by decide)
  have f3 := frac5s (-3) 2 (by decide) (by decide)
  have f4 := frac5s (-3) 1 (by decide) (by decide)
  have lA := lQ_small 6 (-4) (by decide) (by decide)
  have lB := lQ_small 1 2 (by decide) (by decide)
  have lC := lQ_small 0 1 (by decide) (by decide)
  have lD := lQ_small (-3) 1 (by decide) (by decide)
  have e1 : Rat.divInt (-3) 2 = Rat.divInt 6 (-4) := by decide
  have e2 : Rat.divInt 6 (-4) / Rat.divInt 1 2 = Rat.divInt (-3) 1 := by decide +kernel
  have e3 : ¬ Rat.divInt 1 2 = 0 := by decide
  have e4 : Rat.divInt 0 1 = 0 := by decide
  have e5 : (Rat.divInt 6 (-4)).floor = -2 := by decide
  have e6 : -(-(Rat.divInt 6 (-4))).floor = -1 := by decide
  have e7 : ¬ (Rat.divInt 6 (-4)).den = 1 := by decide
  have e8 : (Rat.divInt (-3) 1).den = 1 := by decide
  have e9 : cmpQ (Rat.divInt 6 (-4)) (Rat.divInt (-3) 1) = 1 := by decide +kernel
  rw [e1] at f3
  generalize Rat.divInt 6 (-4) = A at *
  generalize Rat.divInt 1 2 = B at *
  generalize Rat.divInt 0 1 = C at *
  generalize Rat.divInt (-3) 1 = D at *
  have d1 := q_Div_e A B (by omega) (by omega)
  rw [e2, if_neg e3] at d1
  have d2 := q_Div_e A C (by omega) (by omega)
  rw [if_pos e4] at d2
  have q1 := tB_of (r_EqualRat_e A A (by omega) (by omega)) rfl
  have q2 := q_Is_e A (by omega)
  have q3 : PCall Tryz.prog 9 [.agg [.lit (.bool false), .seq (some true) [], .seq (some true) []]] (tB false) :=
    (tB_not (q_Is false [] [] (by simp) (by simp)) (fun h => h.2.2.1 rfl)).fz (.cons (fz_agg3 .t .weak .weak) .nil)
  have q4 := tB_of (r_EqualRat_e D D (by omega) (by omega)) rfl
  have q5 := q_Floor_e A (by omega)
  rw [e5] at q5
  have q6 := q_Ceil_e A (by omega)
  rw [e6] at q6
  have s2 := tB_of (i_Equal_e (-2) (-2) (by have := lN_small (z := -2) (by decide); omega) (by have := lN_small (z := -2) (by decide); omega)) rfl
  have s1 := tB_of (i_Equal_e (-1) (-1) (by have := lN_small (z := -1) (by decide); omega) (by have := lN_small (z := -1) (by decide); omega)) rfl
  have q7 := tB_not (q_Whole_e A (by omega)) e7
  have q8 := tB_of (q_Whole_e D (by omega)) e8
  have q9 := q_Cmp_e A D (by omega) (by omega)
  rw [e9] at q9
  obtain ⟨c2, h2⟩ : ∃ c : Int, c = -2 := ⟨_, rfl⟩
  obtain ⟨c1, h1⟩ : ∃ c : Int, c = -1 := ⟨_, rfl⟩
  obtain ⟨c6, h6⟩ : ∃ c : Int, c = 6 := ⟨_, rfl⟩
  obtain ⟨c4, h4⟩ : ∃ c : Int, c = -4 := ⟨_, rfl⟩
  have o6 : PCall Tryz.prog 34 [tI .i64 6] (eI c6) := by rw [h6]; exact o6
  have o4 : PCall Tryz.prog 34 [tI .i64 (-4)] (eI c4) := by rw [h4]; exact o4
  have om2 : PCall Tryz.prog 34 [tI .i64 (-2)] (eI c2) := by rw [h2]; exact om2
  have om1 : PCall Tryz.prog 34 [tI .i64 (-1)] (eI c1) := by rw [h1]; exact om1
  rw [← h6, ← h4] at qa
  rw [← h2] at q5 s2
  rw [← h1] at q6 s1
  clear h2 h1 h6 h4 e1 e2 e3 e4 e5 e6 e7 e8 e9
  simp only [go_sem]
  (repeat (first | (refine regA_by 0 rfl ?_; simp only [go_sem]) | (refine call_pure (o6) rfl ?_; simp only [go_sem]) | (refine call_pure (o4) rfl ?_; simp only [go_sem]) | (refine call_pure (qa) rfl ?_; simp only [go_sem]) | (refine call_pure (f1) rfl ?_; simp only [go_sem]) | (refine call_pure (d1) rfl ?_; simp only [go_sem]) | (refine call_pure (f2) rfl ?_; simp only [go_sem]) | (refine call_pure (d2) rfl ?_; simp only [go_sem]) | (refine call_pure (f3) rfl ?_; simp only [go_sem]) | (refine call_pure (q1) rfl ?_; simp only [go_sem]) | (refine call_pure (q2) rfl ?_; simp only [go_sem]) | (refine call_pure (q3) rfl ?_; simp only [go_sem]) | (refine call_pure (f4) rfl ?_; simp only [go_sem]) | (refine call_pure (q4) rfl ?_; simp only [go_sem]) | (refine call_pure (q5) rfl ?_; simp only [go_sem]) | (refine call_pure (om2) rfl ?_; simp only [go_sem]) | (refine call_pure (s2) rfl ?_; simp only [go_sem]) | (refine call_pure (q6) rfl ?_; simp only [go_sem]) | (refine call_pure (om1) rfl ?_; simp only [go_sem]) | (refine call_pure (s1) rfl ?_; simp only [go_sem]) | (refine call_pure (q7) rfl ?_; simp only [go_sem]) | (refine call_pure (q8) rfl ?_; simp only [go_sem]) | (refine call_pure (q9) rfl ?_; simp only [go_sem])))
end Go.Proofs.YtpnmoecjhannnaaGreat
namespace Go.Proofs.YtpnmoecjhannnaaGreat
open Go Go.Abs
set_option maxHeartbeats 8000000
theorem cmpQ_ext {x y x' y' : Rat} (h1 : x < y ↔ x' < y') (h2 : y < x ↔ y' < x') : cmpQ x y = cmpQ x' y' := by
  rw [← cmpQ_lt, ← cmpQ_lt] at h1
  rw [← cmpQ_gt, ← cmpQ_gt] at h2
  have a := cmpQ_range x y
  have b := cmpQ_range x' y'
  omega
theorem cmpQ_swap (x y : Rat) : cmpQ y x = -cmpQ x y := by
  unfold cmpQ; rw [← Rat.neg_sub, Rat.neg_num, Int.sign_neg]
theorem cmpQ_neg (x y : Rat) : cmpQ (-x) (-y) = -cmpQ x y := by
  rw [← cmpQ_swap]; unfold cmpQ; rw [show -x - -y = y - x by grind]
end Go.Proofs.YtpnmoecjhannnaaGreat
