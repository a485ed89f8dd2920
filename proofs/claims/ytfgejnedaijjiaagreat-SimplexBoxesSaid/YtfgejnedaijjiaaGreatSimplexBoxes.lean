/- At every input the call answers true and leaves its arguments as they were; no conditions. -/
import Derived.Test.YtfgejnedaijjiaaGreatDe
import Derived.Test.YtfgejnedaijjiaaGreatQz
set_option linter.unusedSimpArgs false
set_option linter.unusedVariables false
namespace Go.Proofs.YtfgejnedaijjiaaGreat
open Go Go.Abs
set_option maxHeartbeats 16000000
theorem cmp_ge {x y : Rat} (h : y ≤ x) : (0 ≤ cmpQ x y) = True := eq_true (by
  unfold cmpQ
  have h0 : 0 ≤ (x - y).num := Rat.num_nonneg.2 (by grind)
  rcases Int.lt_or_eq_of_le h0 with h | h
  · have := Int.sign_eq_one_of_pos h; omega
  · rw [← h]; decide)
theorem cmp_le {x y : Rat} (h : x ≤ y) : (cmpQ x y ≤ 0) = True := eq_true (by
  unfold cmpQ
  have h0 : 0 ≤ (-(x - y)).num := Rat.num_nonneg.2 (by grind)
  rw [Rat.neg_num] at h0
  rcases Int.lt_or_eq_of_le h0 with h | h
  · have := Int.sign_eq_neg_one_of_neg (a := (x - y).num) (by omega); omega
  · rw [show (x - y).num = 0 by omega]; decide)
theorem cmp_self (x : Rat) : cmpQ x x = 0 := by
  unfold cmpQ
  rw [show x - x = 0 by grind]; rfl
set_option maxRecDepth 100000 in
theorem p_SimplexBoxes (lo : Int) (lo1 : -32768 ≤ lo) (lo2 : lo < 32768) (hi : Int) (hi1 : -32768 ≤ hi) (hi2 : hi < 32768) (c : Int) (n1 : 0 ≤ c) (n2 : c < 256) :
    PCall Tryz.prog 5 [tI .i16 lo, tI .i16 hi, tI .u8 c] (tB true) := by
  have hk := known19
  refine pcall_of_wpA mixed Tryz.call5 Tryz.func5 rfl Tryz.ntmps5 Tryz.results5 (by simp) (by decide) ?_
  obtain ⟨k, hk1, hk2⟩ : ∃ k : Nat, Int.tmod c 7 = (k : Int) ∧ k < 7 := ⟨(c % 7).toNat, by rw [Int.tmod_eq_emod_of_nonneg n1]; omega, by omega⟩
  obtain ⟨m, hm⟩ : ∃ m : Int, m = (k : Int) + 1 := ⟨_, rfl⟩
  have w1 : IntKind.i64.wrap (k : Int) = (k : Int) := wrap_i64 (by omega) (by omega)
  have w2 : IntKind.i64.wrap ((k : Int) + 1) = m := by rw [hm]; exact wrap_i64 (by omega) (by omega)
  have w3 : IntKind.i64.wrap hi = hi := wrap_i64 (by omega) (by omega)
  have w4 : IntKind.i64.wrap (0 - hi) = -hi := by rw [wrap_i64 (by omega) (by omega)]; omega
  have w5 : IntKind.i64.wrap lo = lo := wrap_i64 (by omega) (by omega)
  have w6 : IntKind.i64.wrap (0 - m) = -m := by rw [wrap_i64 (by omega) (by omega)]; omega
  have m1 : 1 ≤ m := by omega
  have m2 : m ≤ 7 := by omega
  have f1 := form19 m (-hi) (by omega) (by omega) (by omega)
  have f2 := form19 (-m) lo (by omega) (by omega) (by omega)
  have eh : ((-hi : Int) : Rat) = -(hi : Rat) := Rat.intCast_neg _
  have em : ((-m : Int) : Rat) = -(m : Rat) := Rat.intCast_neg _
  have hm0 : (m : Rat) ≠ 0 := fun e => by
    have e0 : (m : Rat) = ((0 : Int) : Rat) := e
    have := Rat.intCast_inj.1 e0; omega
  rcases solve_two m (-hi) (-m) lo (by omega) (by omega) (by omega) (by omega) (by omega) (by omega) with ⟨x, lx, hs, h1, h2⟩ | ⟨p, q, lp, lq, hn, hs, hf⟩
  · rw [eh] at h1
    rw [em] at h2
    have c1 : (hi : Rat) ≥ x * (m : Rat) := by grind
    have c2 : (lo : Rat) ≤ x * (m : Rat) := by grind
    have c3 : (lo ≤ hi) = True := eq_true (by
      have : (lo : Rat) ≤ (hi : Rat) := Rat.le_trans c2 c1
      exact Rat.intCast_le_intCast.1 this)
    have o1 : PCall Tryz.prog 24 [tI .i64 m] (eI m) := i_Of m (by omega) (by omega)
    have o2 : PCall Tryz.prog 24 [tI .i64 lo] (eI lo) := i_Of lo (by omega) (by omega)
    have o3 : PCall Tryz.prog 24 [tI .i64 hi] (eI hi) := i_Of hi (by omega) (by omega)
    have lm : lN m ≤ 1 := lN_small (by omega)
    have ll : lN lo ≤ 1 := lN_small (by omega)
    have lh : lN hi ≤ 1 := lN_small (by omega)
    have r1 := r_RatInt_e m (by omega)
    have r2 := r_RatInt_e lo (by omega)
    have r3 := r_RatInt_e hi (by omega)
    have lm2 := lQ_int m
    have ll2 := lQ_int lo
    have lh2 := lQ_int hi
    have mu := r_MulRat_e x (m : Rat) (by omega) (by omega)
    have lmu := lQ_mul x (m : Rat)
    have g1 := r_CmpRat_e (x * (m : Rat)) (lo : Rat) (by omega) (by omega)
    have g2 := r_CmpRat_e (x * (m : Rat)) (hi : Rat) (by omega) (by omega)
    have s1 := cmp_ge c2
    have s2 := cmp_le c1
    clear h1 h2 eh em
    generalize x * (m : Rat) = v at *
    generalize (m : Rat) = mq at *
    generalize (lo : Rat) = loq at *
    generalize (hi : Rat) = hiq at *
    generalize lF m (-hi) = F1 at *
    generalize lF (-m) lo = F2 at *
    simp only [go_sem]
    ((repeat (refine regA_by 0 rfl ?_; simp only [go_sem, hk1, w1, w2, w3, w4, w5, w6, c3, s1, s2])); refine call_pure (hk) rfl ?_; simp only [go_sem, hk1, w1, w2, w3, w4, w5, w6, c3, s1, s2]; (repeat (refine regA_by 0 rfl ?_; simp only [go_sem, hk1, w1, w2, w3, w4, w5, w6, c3, s1, s2])); refine call_pure (f1) rfl ?_; simp only [go_sem, hk1, w1, w2, w3, w4, w5, w6, c3, s1, s2]; (repeat (refine regA_by 0 rfl ?_; simp only [go_sem, hk1, w1, w2, w3, w4, w5, w6, c3, s1, s2])); refine call_pure (f2) rfl ?_; simp only [go_sem, hk1, w1, w2, w3, w4, w5, w6, c3, s1, s2]; (repeat (refine regA_by 0 rfl ?_; simp only [go_sem, hk1, w1, w2, w3, w4, w5, w6, c3, s1, s2])); refine call_pure (hs) rfl ?_; simp only [go_sem, hk1, w1, w2, w3, w4, w5, w6, c3, s1, s2]; (repeat (refine regA_by 0 rfl ?_; simp only [go_sem, hk1, w1, w2, w3, w4, w5, w6, c3, s1, s2])); refine call_pure (o1) rfl ?_; simp only [go_sem, hk1, w1, w2, w3, w4, w5, w6, c3, s1, s2]; (repeat (refine regA_by 0 rfl ?_; simp only [go_sem, hk1, w1, w2, w3, w4, w5, w6, c3, s1, s2])); refine call_pure (r1) rfl ?_; simp only [go_sem, hk1, w1, w2, w3, w4, w5, w6, c3, s1, s2]; (repeat (refine regA_by 0 rfl ?_; simp only [go_sem, hk1, w1, w2, w3, w4, w5, w6, c3, s1, s2])); refine call_pure (mu) rfl ?_; simp only [go_sem, hk1, w1, w2, w3, w4, w5, w6, c3, s1, s2]; (repeat (refine regA_by 0 rfl ?_; simp only [go_sem, hk1, w1, w2, w3, w4, w5, w6, c3, s1, s2])); refine call_pure (o2) rfl ?_; simp only [go_sem, hk1, w1, w2, w3, w4, w5, w6, c3, s1, s2]; (repeat (refine regA_by 0 rfl ?_; simp only [go_sem, hk1, w1, w2, w3, w4, w5, w6, c3, s1, s2])); refine call_pure (r2) rfl ?_; simp only [go_sem, hk1, w1, w2, w3, w4, w5, w6, c3, s1, s2]; (repeat (refine regA_by 0 rfl ?_; simp only [go_sem, hk1, w1, w2, w3, w4, w5, w6, c3, s1, s2])); refine call_pure (g1) rfl ?_; simp only [go_sem, hk1, w1, w2, w3, w4, w5, w6, c3, s1, s2]; (repeat (refine regA_by 0 rfl ?_; simp only [go_sem, hk1, w1, w2, w3, w4, w5, w6, c3, s1, s2])); refine call_pure (o3) rfl ?_; simp only [go_sem, hk1, w1, w2, w3, w4, w5, w6, c3, s1, s2]; (repeat (refine regA_by 0 rfl ?_; simp only [go_sem, hk1, w1, w2, w3, w4, w5, w6, c3, s1, s2])); refine call_pure (r3) rfl ?_; simp only [go_sem, hk1, w1, w2, w3, w4, w5, w6, c3, s1, s2]; (repeat (refine regA_by 0 rfl ?_; simp only [go_sem, hk1, w1, w2, w3, w4, w5, w6, c3, s1, s2])); refine call_pure (g2) rfl ?_; simp only [go_sem, hk1, w1, w2, w3, w4, w5, w6, c3, s1, s2]; (repeat (refine regA_by 0 rfl ?_; simp only [go_sem, hk1, w1, w2, w3, w4, w5, w6, c3, s1, s2])))
  · have hlt : hi < lo := by
      refine Int.not_le.1 fun hle => no_two (c := m) (d := -m) (by omega) (by omega) hn ((hi : Rat) / (m : Rat)) ?_ ?_
      · have : (m : Rat) * ((hi : Rat) / (m : Rat)) = hi := by rw [Rat.div_def, Rat.mul_comm, Rat.mul_assoc, Rat.inv_mul_cancel _ hm0, Rat.mul_one]
        rw [eh, this]; grind
      · have : (m : Rat) * ((hi : Rat) / (m : Rat)) = hi := by rw [Rat.div_def, Rat.mul_comm, Rat.mul_assoc, Rat.inv_mul_cancel _ hm0, Rat.mul_one]
        have hle' : (lo : Rat) ≤ (hi : Rat) := Rat.intCast_le_intCast.2 hle
        rw [em, Rat.neg_mul, this]; grind
    have c3 : (lo ≤ hi) = False := eq_false (by omega)
    have hpq : p = q := by
      have := hn.2.1 0 (by decide)
      have e : smQ (fun i => [p, q].getD i 0 * (coM ([lF m (-hi), lF (-m) lo].getD i ([], 0)).1 0 : Rat)) 2 = 0 + p * (m : Rat) + q * ((-m : Int) : Rat) := rfl
      have h0 : 0 + p * (m : Rat) + q * ((-m : Int) : Rat) = 0 := e ▸ this
      rw [em] at h0
      have h1 : (p - q) * (m : Rat) = 0 := by grind
      rcases Rat.mul_eq_zero.1 h1 with h | h
      · grind
      · exact absurd h hm0
    have g1 := r_CmpRat_e p q (by omega) (by omega)
    subst hpq
    rw [cmp_self] at g1
    have e1 : elemD cR [p, p] 1 = cR p := rfl
    clear hn eh em
    generalize lF m (-hi) = F1 at *
    generalize lF (-m) lo = F2 at *
    simp only [go_sem]
    ((repeat (refine regA_by 0 rfl ?_; simp only [go_sem, hk1, w1, w2, w3, w4, w5, w6, c3, e1])); refine call_pure (hk) rfl ?_; simp only [go_sem, hk1, w1, w2, w3, w4, w5, w6, c3, e1]; (repeat (refine regA_by 0 rfl ?_; simp only [go_sem, hk1, w1, w2, w3, w4, w5, w6, c3, e1])); refine call_pure (f1) rfl ?_; simp only [go_sem, hk1, w1, w2, w3, w4, w5, w6, c3, e1]; (repeat (refine regA_by 0 rfl ?_; simp only [go_sem, hk1, w1, w2, w3, w4, w5, w6, c3, e1])); refine call_pure (f2) rfl ?_; simp only [go_sem, hk1, w1, w2, w3, w4, w5, w6, c3, e1]; (repeat (refine regA_by 0 rfl ?_; simp only [go_sem, hk1, w1, w2, w3, w4, w5, w6, c3, e1])); refine call_pure (hs) rfl ?_; simp only [go_sem, hk1, w1, w2, w3, w4, w5, w6, c3, e1]; (repeat (refine regA_by 0 rfl ?_; simp only [go_sem, hk1, w1, w2, w3, w4, w5, w6, c3, e1])); refine call_pure (hf) rfl ?_; simp only [go_sem, hk1, w1, w2, w3, w4, w5, w6, c3, e1]; (repeat (refine regA_by 0 rfl ?_; simp only [go_sem, hk1, w1, w2, w3, w4, w5, w6, c3, e1])); refine call_pure (g1) rfl ?_; simp only [go_sem, hk1, w1, w2, w3, w4, w5, w6, c3, e1]; (repeat (refine regA_by 0 rfl ?_; simp only [go_sem, hk1, w1, w2, w3, w4, w5, w6, c3, e1])))
end Go.Proofs.YtfgejnedaijjiaaGreat
namespace Go.Proofs.YtfgejnedaijjiaaGreat
open Go Go.Abs Go.ChangeShapes Go.WideShapes Go.ChangeAt Go.RowKit
set_option maxRecDepth 100000
theorem simplexBoxes_lifted (os : Os) (started : os.Started) (H : Type) (enc : TypeId × Value → H) :
    ReturnsInHanded {} Tryz.checked os 5 .any (Rows.simplexBoxesSpec.pre6 enc Tryz.prog Tryz.f5 Rows.simplexBoxesRow.domain false) (Rows.simplexBoxesSpec.post enc Tryz.prog Tryz.f5 false true false false) := by
  refine returnsInHanded_of_change (C := Tryz.checked) Tryz.ownK started (by kernel_rfl) Tryz.func5
    (ChangeSpec.witness6 (enc := enc) (C := Tryz.checked) false ⟨#[], #[.int .i16 0, .int .i16 0, .int .u8 0], []⟩ 8 (by kernel_rfl) (by kernel_rfl) (by kernel_rfl) (by kernel_rfl)) ?_
  intro W base args ds gs before hval hW _ _
  refine row_of_pcall (S := plainS) (tb := 4) plain_ok Tryz.laidOut (by intro t ht; revert t; decide +kernel) rfl Tryz.underlying4 rfl (fun ds h => ?_) (fun tvs h => ?_) hval hW
  · match ds, h with
    | [d0, d1, d2], _ => rfl
  · obtain ⟨x0, _, rfl, h0, h⟩ := wtvs_cons h
    obtain ⟨x1, _, rfl, h1, h⟩ := wtvs_cons h
    obtain ⟨x2, _, rfl, h2, h⟩ := wtvs_cons h
    obtain rfl := wtvs_nil h
    obtain ⟨n0, rfl, k0⟩ := wtv_int Tryz.underlying43 h0
    have k0 := wf_i16 k0
    obtain ⟨n1, rfl, k1⟩ := wtv_int Tryz.underlying43 h1
    have k1 := wf_i16 k1
    obtain ⟨n2, rfl, k2⟩ := wtv_int Tryz.underlying5 h2
    have k2 := wf_u8 k2
    exact p_SimplexBoxes n0 k0.1 k0.2 n1 k1.1 k1.2 n2 k2.1 k2.2

theorem simplexBoxes_holds : Rows.SimplexBoxesSaid :=
  OpenClaim.holds_of_wide 5 Tryz.f5 rfl rfl rfl rfl rfl rfl rfl ⟨rfl, rfl, rfl, rfl, rfl⟩ rfl rfl rfl rfl rfl (by kernel_rfl) Tryz.func5 (by kernel_rfl)
    (of_decide_eq_true (by kernel_rfl)) (by unfold Func.isWrapper; first | (rw [if_pos (by decide +kernel)]; kernel_rfl) | (rw [if_neg (by decide +kernel)]; exact ⟨rfl, rfl⟩))
    (fun os started H enc _ => simplexBoxes_lifted os started H enc)
end Go.Proofs.YtfgejnedaijjiaaGreat
