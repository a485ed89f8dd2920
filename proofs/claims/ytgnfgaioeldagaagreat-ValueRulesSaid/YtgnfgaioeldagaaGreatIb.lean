/- At every input the call answers true and leaves its arguments as they were; no conditions. -/
import Derived.Test.YtgnfgaioeldagaaGreatIa
set_option linter.unusedSimpArgs false
set_option linter.unusedVariables false
namespace Go.Proofs.YtgnfgaioeldagaaGreat
open Go Go.Abs
set_option maxHeartbeats 4000000
@[go_sem] theorem st_buildSliceC {P : Program} {m : Nat} {σ : St} {K : AV → St → Prop} {d ty : Nat} {pos : String} {af : Array Edge} {g : Option (Nat × Bool)} {t : TypeId} {n i : Nat} {v : Value} {ps : List (Nat × Operand)} (hn : n ≠ 0) :
    stepA P m ⟨some d, .buildSlice t n ((i, .const v) :: ps).toArray, ty, pos, af, g⟩ σ K =
    ((tok P t = true ∧ isSliceD (tdesc P t) = true ∧ tok P (telem P t) = true ∧ n * tsize P (telem P t) ≤ 2 ^ 24 ∧ 0 < n * tsize P (telem P t) ∧ ((tzero P (telem P t)).map (·.length)) = some (tsize P (telem P t)) ∧
      (buildSliceA P t n (((i, Operand.const v) :: ps).map fun p => (p.1, ev σ.s p.2))).isSome = true) ∧ K ((buildSliceA P t n (((i, Operand.const v) :: ps).map fun p => (p.1, ev σ.s p.2))).getD .junk) σ) := st_buildSlice hn rfl
set_option maxRecDepth 100000 in
theorem i_Floor (s : Bool) (a : List Nat) (t : Bool) (b : List Nat) (ha : a.length < 100000000000) (hb : b.length < 100000000000) : PCall Tryz.prog 150 [gI s a, gI t b] (.tup [eI (Int.fdiv (iv s a) (iv t b)), eI (Int.fmod (iv s a) (iv t b))]) := by
  refine pcall_of_wpA mixed Tryz.call150 Tryz.func150 rfl Tryz.ntmps150 Tryz.results150 (by simp) (by decide) ?_
  simp only [go_sem]
  refine regA_by 0 rfl ?_
  simp only [go_sem]
  refine call_pure (i_May s a (by omega)) rfl ?_
  simp only [go_sem]
  refine call_pure (i_May t b (by omega)) rfl ?_
  have hl1 := lN_iv s a
  have hl2 := lN_iv t b
  generalize iv s a = x at *
  generalize iv t b = y at *
  simp only [go_sem]
  refine call_pure (i_Sign_e y (by omega)) rfl ?_
  by_cases hy : y = 0
  · subst hy
    have e0 : (0 : Int).sign = 0 := rfl
    rw [Int.fdiv_zero, Int.fmod_zero]
    simp only [go_sem, e0]
    refine regA_bl 0 [(4, 4), (6, 6)] rfl (by simp only [goodB_cons, goodB_nil]; refine ⟨⟨0, ?_⟩, ⟨0, ?_⟩, trivial⟩ <;> simp only [go_sem]) ?_
    simp only [go_sem]
    rw [eI_zero]
    exact fz_tup2 (fz_agg2 .t .weak) (fz_agg2 .t .t)
  · have hne : ¬ y.sign = 0 := fun e => hy (Int.sign_eq_zero_iff_zero.1 e)
    have hdv := r_DivNat (dig x.natAbs) (dig y.natAbs) (by unfold lN at *; omega) (by unfold lN at *; omega)
    rw [vN_dig, vN_dig] at hdv
    have law := (floor_law x y hy).1
    have hfm : Int.fmod x y = x - Int.fdiv x y * y := by have := Int.fmod_def x y; rw [this, Int.mul_comm]
    have hq1 : (dig (x.natAbs / y.natAbs)).length ≤ lN x := dig_length_le (Nat.lt_of_le_of_lt (Nat.div_le_self ..) (lt_lN x))
    have hq2 : lN (Int.fdiv x y) ≤ lN x + 1 := by
      apply lN_of
      have h1 := lt_lN x
      have h2 : x.natAbs / y.natAbs ≤ x.natAbs := Nat.div_le_self ..
      have h3 : (Int.fdiv x y).natAbs ≤ x.natAbs / y.natAbs + 1 := by
        rw [law]; unfold divQ; split <;> split <;> simp only [Int.natAbs_neg, Int.natAbs_natCast] <;> omega
      have h4 : 0 < BB ^ lN x := Nat.pow_pos (by decide)
      rw [BB_pow_succ]; omega
    have hml := lN_mul (Int.fdiv x y) y
    have hmul := i_Mul_e (Int.fdiv x y) y (by omega) (by omega)
    have hsub := i_Sub_e x (Int.fdiv x y * y) (by omega) (by omega)
    rw [← hfm] at hsub
    by_cases hup : (decide (x < 0) != decide (y < 0)) = true ∧ x.natAbs % y.natAbs ≠ 0
    · have hadd := r_AddNat (dig (x.natAbs / y.natAbs)) [1] (by omega) (by simp)
      have hv1 : vN [1] = 1 := by unfold vN; simp [held, IsN, BB, val]
      rw [vN_dig, hv1] at hadd
      have hn : Int.fdiv x y = -((x.natAbs / y.natAbs + 1 : Nat) : Int) := by
        rw [law, if_pos hup.1]; unfold divQ; rw [if_pos hup]
      have hsg := i_sign true (dig (x.natAbs / y.natAbs + 1))
      have e1 : gI (true && decide (dig (x.natAbs / y.natAbs + 1) ≠ [])) (dig (x.natAbs / y.natAbs + 1)) = eI (Int.fdiv x y) := by
        unfold eI; rw [hn, Int.natAbs_neg, Int.natAbs_natCast]
        congr 1
        generalize x.natAbs / y.natAbs = q
        rw [Bool.eq_iff_iff]; simp [dig_eq_nil]
      rw [e1] at hsg
      have hr0 : (0 : Int) < ((dig (x.natAbs % y.natAbs)).length : Int) := by
        have : (dig (x.natAbs % y.natAbs)).length ≠ 0 := fun e => by
          have := dig_eq_nil.1 (List.length_eq_zero_iff.1 e); omega
        omega
      simp only [go_sem, hne]
      refine call_pure hdv rfl ?_
      have hb : (decide (x < 0) == decide (y < 0)) = false := by have := hup.1; revert this; cases decide (x < 0) <;> cases decide (y < 0) <;> simp
      simp only [go_sem, hb, hr0]
      refine call_fz (tvs' := [tN (dig (x.natAbs / y.natAbs)), .one (.seq (some false) [[.lit (.int .u32 1)]])]) hadd rfl (.cons fzT (.cons fzW .nil)) ?_
      simp only [go_sem]
      refine call_pure hsg rfl ?_
      simp only [go_sem]
      refine regA_by 0 rfl ?_
      simp only [go_sem]
      refine call_pure hmul rfl ?_
      simp only [go_sem]
      refine call_pure hsub rfl ?_
      simp only [go_sem]
      exact fz_tup2 (fz_agg2 .t .t) (fz_agg2 .t .t)
    · have hn : Int.fdiv x y = (if (decide (x < 0) != decide (y < 0)) = true then -((x.natAbs / y.natAbs : Nat) : Int) else ((x.natAbs / y.natAbs : Nat) : Int)) := by
        rw [law]; unfold divQ; rw [if_neg hup]
      have hsg := i_sign (decide (x < 0) != decide (y < 0)) (dig (x.natAbs / y.natAbs))
      have e1 : gI ((decide (x < 0) != decide (y < 0)) && decide (dig (x.natAbs / y.natAbs) ≠ [])) (dig (x.natAbs / y.natAbs)) = eI (Int.fdiv x y) := by
        unfold eI
        rw [hn]
        generalize x.natAbs / y.natAbs = q
        generalize (decide (x < 0) != decide (y < 0)) = bb
        cases bb with
        | false => simp
        | true =>
          simp only [Bool.true_and, if_true, Int.natAbs_neg, Int.natAbs_natCast]
          congr 1
          rw [decide_eq_decide, ne_eq, dig_eq_nil]; omega
      rw [e1] at hsg
      simp only [go_sem, hne]
      refine call_pure hdv rfl ?_
      by_cases hd : (decide (x < 0) != decide (y < 0)) = true
      · have hr0 : ¬ (0 : Int) < ((dig (x.natAbs % y.natAbs)).length : Int) := by
          have : x.natAbs % y.natAbs = 0 := by
            by_cases h : x.natAbs % y.natAbs = 0
            · exact h
            · exact absurd ⟨hd, h⟩ hup
          rw [this, dig_zero]; simp
        rw [hd] at hsg
        have hb : (decide (x < 0) == decide (y < 0)) = false := by revert hd; cases decide (x < 0) <;> cases decide (y < 0) <;> simp
        simp only [go_sem, hb, hr0]
        refine call_pure hsg rfl ?_
        simp only [go_sem]
        refine regA_by 0 rfl ?_
        simp only [go_sem]
        refine call_pure hmul rfl ?_
        simp only [go_sem]
        refine call_pure hsub rfl ?_
        simp only [go_sem]
        exact fz_tup2 (fz_agg2 .t .t) (fz_agg2 .t .t)
      · rw [Bool.not_eq_true] at hd
        rw [hd] at hsg
        have hb : (decide (x < 0) == decide (y < 0)) = true := by revert hd; cases decide (x < 0) <;> cases decide (y < 0) <;> simp
        simp only [go_sem, hb]
        refine call_pure hsg rfl ?_
        simp only [go_sem]
        refine regA_by 0 rfl ?_
        simp only [go_sem]
        refine call_pure hmul rfl ?_
        simp only [go_sem]
        refine call_pure hsub rfl ?_
        simp only [go_sem]
        exact fz_tup2 (fz_agg2 .t .t) (fz_agg2 .t .t)
theorem i_Floor_e (x y : Int) (ha : lN x < 100000000000) (hb : lN y < 100000000000) : PCall Tryz.prog 150 [eI x, eI y] (.tup [eI (Int.fdiv x y), eI (Int.fmod x y)]) := by
  have := i_Floor (decide (x < 0)) (dig x.natAbs) (decide (y < 0)) (dig y.natAbs) ha hb; rwa [iv_eI, iv_eI] at this

set_option maxRecDepth 100000 in
theorem i_Euclid (s : Bool) (a : List Nat) (t : Bool) (b : List Nat) (ha : a.length < 100000000000) (hb : b.length < 100000000000) : PCall Tryz.prog 132 [gI s a, gI t b] (.tup [eI (iv s a / iv t b), eI (iv s a % iv t b)]) := by
  refine pcall_of_wpA mixed Tryz.call132 Tryz.func132 rfl Tryz.ntmps132 Tryz.results132 (by simp) (by decide) ?_
  simp only [go_sem]
  refine regA_by 0 rfl ?_
  simp only [go_sem]
  refine call_pure (i_May s a (by omega)) rfl ?_
  simp only [go_sem]
  refine call_pure (i_May t b (by omega)) rfl ?_
  have hl1 := lN_iv s a
  have hl2 := lN_iv t b
  generalize iv s a = x at *
  generalize iv t b = y at *
  simp only [go_sem]
  refine call_pure (i_Sign_e y (by omega)) rfl ?_
  by_cases hy : y = 0
  · subst hy
    have e0 : (0 : Int).sign = 0 := rfl
    rw [Int.ediv_zero, Int.emod_zero]
    simp only [go_sem, e0]
    refine regA_bl 0 [(4, 4), (6, 6)] rfl (by simp only [goodB_cons, goodB_nil]; refine ⟨⟨0, ?_⟩, ⟨0, ?_⟩, trivial⟩ <;> simp only [go_sem]) ?_
    simp only [go_sem]
    rw [eI_zero]
    exact fz_tup2 (fz_agg2 .t .weak) (fz_agg2 .t .t)
  · have hne : ¬ y.sign = 0 := fun e => hy (Int.sign_eq_zero_iff_zero.1 e)
    have hab := i_Abs_e y (by omega)
    have hla := lN_abs y
    have hfl := i_Floor_e x (y.natAbs : Int) (by omega) (by omega)
    have hea : x % (y.natAbs : Int) = x % y := by
      by_cases h : 0 ≤ y
      · rw [Int.natAbs_of_nonneg h]
      · rw [show (y.natAbs : Int) = -y by omega, Int.emod_neg]
    rw [Int.fdiv_eq_ediv_of_nonneg x (by omega : 0 ≤ (y.natAbs : Int)), Int.fmod_eq_emod_of_nonneg x (by omega : 0 ≤ (y.natAbs : Int)), hea] at hfl
    have hq2 : lN (x / (y.natAbs : Int)) ≤ lN x + 1 := by
      apply lN_of
      have h1 := lt_lN x
      have h3 : (x / (y.natAbs : Int)).natAbs ≤ x.natAbs := Int.natAbs_ediv_le_natAbs ..
      have h4 : 0 < BB ^ lN x := Nat.pow_pos (by decide)
      rw [BB_pow_succ]; omega
    have hneg := i_Neg_e (x / (y.natAbs : Int)) (by omega)
    simp only [go_sem, hne]
    refine regA_by 0 rfl ?_
    simp only [go_sem]
    refine call_pure hab rfl ?_
    simp only [go_sem]
    refine call_pure hfl rfl ?_
    by_cases hn : y < 0
    · have e : -(x / (y.natAbs : Int)) = x / y := by
        rw [show (y.natAbs : Int) = -y by omega, Int.ediv_neg, Int.neg_neg]
      rw [e] at hneg
      simp only [go_sem, hn]
      refine regA_bl 0 [(4, 4), (8, 8), (9, 9)] rfl (by simp only [goodB_cons, goodB_nil]; refine ⟨⟨0, ?_⟩, ⟨0, ?_⟩, ⟨0, ?_⟩, trivial⟩ <;> simp only [go_sem]) ?_
      simp only [go_sem]
      refine call_pure hneg rfl ?_
      simp only [go_sem]
      exact fz_tup2 (fz_agg2 .t .t) (fz_agg2 .t .t)
    · have e : x / (y.natAbs : Int) = x / y := by rw [show (y.natAbs : Int) = y by omega]
      rw [e]
      simp only [go_sem, hn]
      refine regA_bl 0 [(4, 4), (8, 8), (9, 9)] rfl (by simp only [goodB_cons, goodB_nil]; refine ⟨⟨0, ?_⟩, ⟨0, ?_⟩, ⟨0, ?_⟩, trivial⟩ <;> simp only [go_sem]) ?_
      simp only [go_sem]
      exact fz_tup2 (fz_agg2 .t .t) (fz_agg2 .t .t)
theorem i_Euclid_e (x y : Int) (ha : lN x < 100000000000) (hb : lN y < 100000000000) : PCall Tryz.prog 132 [eI x, eI y] (.tup [eI (x / y), eI (x % y)]) := by
  have := i_Euclid (decide (x < 0)) (dig x.natAbs) (decide (y < 0)) (dig y.natAbs) ha hb; rwa [iv_eI, iv_eI] at this
end Go.Proofs.YtgnfgaioeldagaaGreat
namespace Go.Proofs.YtgnfgaioeldagaaGreat
open Go Go.Abs
set_option maxHeartbeats 4000000
theorem lN_gcd (x y : Int) : lN (Int.gcd x y : Int) ≤ lN x + lN y := by
  apply lN_of
  rw [Int.natAbs_natCast, Nat.pow_add]
  have h1 := lt_lN x; have h2 := lt_lN y
  by_cases hx : x = 0
  · subst hx
    rw [show Int.gcd 0 y = y.natAbs by simp]
    have h3 : 0 < BB ^ lN 0 := Nat.pow_pos (by decide)
    exact Nat.lt_of_lt_of_le h2 (Nat.le_mul_of_pos_left _ h3)
  · have : Int.gcd x y ≤ x.natAbs := Nat.gcd_le_left _ (by omega)
    have h3 : 0 < BB ^ lN y := Nat.pow_pos (by decide)
    exact Nat.lt_of_lt_of_le (Nat.lt_of_le_of_lt this h1) (Nat.le_mul_of_pos_right _ h3)

end Go.Proofs.YtgnfgaioeldagaaGreat
