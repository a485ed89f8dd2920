/- At every input the call answers true and leaves its arguments as they were; no conditions. -/
import Derived.Test.YtjmbhknhiakkpaaUd
import Derived.Test.YtjmbhknhiakkpaaNw
import Derived.Test.YtjmbhknhiakkpaaQz
set_option linter.unusedSimpArgs false
set_option linter.unusedVariables false
namespace Go.Proofs.Ytjmbhknhiakkpaa
open Go Go.Abs
set_option maxHeartbeats 32000000
theorem gl_two {z : Nat → Int} : gl z 2 = (Int.gcd (z 0) (z 1) : Int) := by
  show ((Int.gcd ((Int.gcd 0 (z 0) : Nat) : Int) (z 1) : Nat) : Int) = _
  rw [Int.gcd_zero_left]
  show ((Nat.gcd (((z 0).natAbs : Nat) : Int).natAbs (z 1).natAbs : Nat) : Int) = ((Nat.gcd (z 0).natAbs (z 1).natAbs : Nat) : Int)
  rw [Int.natAbs_natCast]
theorem two_len (a b : Int) : (∀ x : List T, x ∈ [[T.lit (.bool (decide (a < 0))), eN (dig a.natAbs)], [T.lit (.bool (decide (b < 0))), eN (dig b.natAbs)]] → x.length = 2) = True := eq_true fun x hx => by
  rcases List.mem_cons.1 hx with rfl | hx
  · rfl
  · obtain rfl := List.mem_singleton.1 hx; rfl
set_option maxRecDepth 100000 in
theorem p_HermiteTwo (a : Int) (a1 : -32768 ≤ a) (a2 : a < 32768) (b : Int) (b1 : -32768 ≤ b) (b2 : b < 32768) (c : Int) (d1 : -32768 ≤ c) (d2 : c < 32768) :
    PCall Try.prog 8 [tI .i16 a, tI .i16 b, tI .i16 c] (tB true) := by
  have hk := known20
  have wa : IntKind.i64.wrap a = a := wrap_i64 (by omega) (by omega)
  have wb : IntKind.i64.wrap b = b := wrap_i64 (by omega) (by omega)
  have wc : IntKind.i64.wrap c = c := wrap_i64 (by omega) (by omega)
  have oa : PCall Try.prog 20 [tI .i64 a] (eI a) := i_Of a (by omega) (by omega)
  have ob : PCall Try.prog 20 [tI .i64 b] (eI b) := i_Of b (by omega) (by omega)
  have oc : PCall Try.prog 20 [tI .i64 c] (eI c) := i_Of c (by omega) (by omega)
  have la : lN a ≤ 1 := lN_small (by omega)
  have lb : lN b ≤ 1 := lN_small (by omega)
  have lc : lN c ≤ 1 := lN_small (by omega)
  obtain ⟨A, hA⟩ : ∃ A : List (List RI), A = [[encJ a, encJ b]] := ⟨_, rfl⟩
  have hA1 : A.length = 1 := by rw [hA]; rfl
  have lA : ∀ r ∈ A, LR 3 r := fun r hr => by
    rw [hA] at hr
    obtain rfl := List.mem_singleton.1 hr
    refine ⟨by show 2 < 1000000000; decide, fun p hp => ?_⟩
    rcases List.mem_cons.1 hp with rfl | hp
    · have : (encJ a).2.length ≤ 1 := la
      omega
    · obtain rfl := List.mem_singleton.1 hp
      have : (encJ b).2.length ≤ 1 := lb
      omega
  have lC : LR 3 [encJ c] := ⟨by show 1 < 1000000000; decide, fun p hp => by
    obtain rfl := List.mem_singleton.1 hp
    have : (encJ c).2.length ≤ 1 := lc
    omega⟩
  have A0 : atW A 0 0 = a := by rw [hA]; exact vR_enc a
  have A1 : atW A 0 1 = b := by rw [hA]; exact vR_enc b
  have C0 : atR [encJ c] 0 = c := vR_enc c
  obtain ⟨S, pv, kk, T, hp, hv, hT, hgood, hbad, hLB, hS⟩ := solve_any A [encJ c] 2 (by decide) (by omega) lA lC
  obtain ⟨bf, hbf⟩ : ∃ bf, bf = atR [encJ c] := ⟨_, rfl⟩
  rw [← hbf] at hgood hbad hLB hS C0
  rw [hA1] at hp hv hT hbad hLB hS
  have hrf := row_form (g := S.h) (a := atW A) (n := 2) (by decide) hp.shp hv.cols hv.cols'
  obtain ⟨g, hg⟩ : ∃ g : Int, g = (Int.gcd a b : Int) := ⟨_, rfl⟩
  have hS0 : S.h 0 0 = g := by rw [hrf.1, gl_two, A0, A1, hg]
  have k0 : kk 0 = 0 := hp.shp.k0
  have hleft : leftS S pv kk bf 0 = c := by
    show bf 0 - smI _ (kk 0) = c
    rw [k0, C0]
    show c - 0 = c
    omega
  have hb : badS S pv kk bf 0 ↔ Int.fmod c g ≠ 0 := by
    unfold badS
    rw [hleft]
    rcases hp.row 0 (by decide) with ⟨h1, h2, h3⟩ | ⟨h1, h2, h3, h4⟩
    · rw [if_pos h1]
      rw [k0] at h3
      have : g = 0 := by rw [← hS0]; exact h3 (by decide)
      rw [this, Int.fmod_zero]
    · rw [if_neg (by omega), k0, hS0]
  have lg : lN g ≤ 1 := lN_small (by
    rw [hg, Int.natAbs_natCast]
    have := gl_le (z := fun i => if i = 0 then a else b) (M := 32768) (fun i => by
      show (if i = 0 then a else b).natAbs ≤ 32768
      split <;> omega) 2
    rw [gl_two] at this
    have h2 : ((Int.gcd a b : Nat) : Int).natAbs ≤ 32768 := this
    rw [Int.natAbs_natCast] at h2
    omega)
  have o1 := i_Gcd_e a b (by omega) (by omega)
  rw [← hg] at o1
  have o2 := i_Floor_e c g (by omega) (by omega)
  obtain ⟨q, hq⟩ : ∃ q, q = Int.fdiv c g := ⟨_, rfl⟩
  obtain ⟨r, hr⟩ : ∃ r, r = Int.fmod c g := ⟨_, rfl⟩
  have hrl : lN r ≤ 2 := by
    by_cases e : g = 0
    · rw [hr, e, Int.fmod_zero]; omega
    · have h1 : 0 ≤ g := by rw [hg]; omega
      have h2 := Int.fmod_nonneg_of_pos c (show 0 < g by omega)
      have h3 := Int.fmod_lt_of_pos c (show 0 < g by omega)
      have h4 := lt_lN g
      have h5 : BB ^ lN g ≤ BB ^ 1 := Nat.pow_le_pow_right (by decide) lg
      have hB : BB ^ 1 = 1000000000 := by decide
      have := lN_small (z := r) (by omega)
      omega
  rw [← hq, ← hr] at o2
  have o3 := i_Sign_e r (by omega)
  have tA : TVW (.one (.seq (some false) [[.seq (some false) [cJ a, cJ b]]])) (.one (eW A)) := by rw [hA]; exact .one (TW.list (.inr rfl) (.cons (.cons TW.weak .nil) .nil))
  have tC : TVW (.one (.seq (some false) [cJ c])) (.one (eL cI [encJ c])) := .one .weak
  have hS := hS.tw (.cons tA (.cons tC (.cons TVW.refl1 .nil)))
  refine pcall_of_wpA mixed Try.call8 Try.func8 rfl Try.ntmps8 Try.results8 (by simp) (by decide) ?_
  by_cases e : Int.fmod c g = 0
  · have hT1 : ¬ T < 1 := fun h => by
      obtain rfl : T = 0 := by omega
      exact hb.1 (hbad h) e
    have hr0 : (r.sign = 0) = True := eq_true (by rw [hr, e]; rfl)
    unfold solT at hS
    rw [if_neg hT1] at hS
    have hx0 := xSol_len hLB (show 0 < 2 by decide)
    have hx1 := xSol_len hLB (show 1 < 2 by decide)
    have hsol := solve_sol (a := A) (b := bf) (n := 2) (S := S) (pv := pv) (kk := kk) (T := T) (by rw [hA1]; exact hp) (by rw [hA1]; exact hv) (by omega) hgood (r := 0) (by omega)
    rw [hA1] at hsol
    have hsol : 0 + atW A 0 0 * xSol S pv kk bf 2 1 0 + atW A 0 1 * xSol S pv kk bf 2 1 1 = bf 0 := hsol
    rw [A0, A1, C0] at hsol
    have hXe : eL cJ (fnG 2 (xSol S pv kk bf 2 1)) = .seq none [cJ (xSol S pv kk bf 2 1 0), cJ (xSol S pv kk bf 2 1 1)] := rfl
    rw [hXe] at hS
    generalize xSol S pv kk bf 2 1 0 = x0 at *
    generalize xSol S pv kk bf 2 1 1 = x1 at *
    have o4 := i_Mul_e a x0 (by omega) (by omega)
    have o5 := i_Mul_e b x1 (by omega) (by omega)
    have m1 := lN_mul a x0
    have m2 := lN_mul b x1
    have o6 := i_Add_e (a * x0) (b * x1) (by omega) (by omega)
    have hs2 : a * x0 + b * x1 = c := by omega
    rw [hs2] at o6
    have o7 := tB_of (i_Equal_e c c (by omega) (by omega)) rfl
    generalize a * x0 = p0 at *
    generalize b * x1 = p1 at *
    simp only [go_sem]
    ((repeat (refine regA_by 0 rfl ?_; simp only [go_sem, wa, wb, wc, two_len])); refine call_pure (hk) rfl ?_; simp only [go_sem, wa, wb, wc, two_len]; (repeat (refine regA_by 0 rfl ?_; simp only [go_sem, wa, wb, wc, two_len])); refine call_pure (oa) rfl ?_; simp only [go_sem, wa, wb, wc, two_len]; (repeat (refine regA_by 0 rfl ?_; simp only [go_sem, wa, wb, wc, two_len])); refine call_pure (ob) rfl ?_; simp only [go_sem, wa, wb, wc, two_len]; (repeat (refine regA_by 0 rfl ?_; simp only [go_sem, wa, wb, wc, two_len])); refine call_pure (oc) rfl ?_; simp only [go_sem, wa, wb, wc, two_len]; (repeat (refine regA_by 0 rfl ?_; simp only [go_sem, wa, wb, wc, two_len])); refine call_pure (hS) rfl ?_; simp only [go_sem, wa, wb, wc, two_len]; (repeat (refine regA_by 0 rfl ?_; simp only [go_sem, wa, wb, wc, two_len])); refine call_pure (o1) rfl ?_; simp only [go_sem, wa, wb, wc, two_len]; (repeat (refine regA_by 0 rfl ?_; simp only [go_sem, wa, wb, wc, two_len])); refine call_pure (oc) rfl ?_; simp only [go_sem, wa, wb, wc, two_len]; (repeat (refine regA_by 0 rfl ?_; simp only [go_sem, wa, wb, wc, two_len])); refine call_pure (o2) rfl ?_; simp only [go_sem, wa, wb, wc, two_len]; (repeat (refine regA_by 0 rfl ?_; simp only [go_sem, wa, wb, wc, two_len])); refine call_pure (o3) rfl ?_; simp only [go_sem, wa, wb, wc, two_len]; (repeat (refine regA_by 0 rfl ?_; simp only [go_sem, wa, wb, wc, two_len])))
    simp only [go_sem, hr0]
    ((repeat (refine regA_by 0 rfl ?_; simp only [go_sem, wa, wb, wc, two_len, hr0])); refine call_pure (o4) rfl ?_; simp only [go_sem, wa, wb, wc, two_len, hr0]; (repeat (refine regA_by 0 rfl ?_; simp only [go_sem, wa, wb, wc, two_len, hr0])); refine call_pure (o5) rfl ?_; simp only [go_sem, wa, wb, wc, two_len, hr0]; (repeat (refine regA_by 0 rfl ?_; simp only [go_sem, wa, wb, wc, two_len, hr0])); refine call_pure (o6) rfl ?_; simp only [go_sem, wa, wb, wc, two_len, hr0]; (repeat (refine regA_by 0 rfl ?_; simp only [go_sem, wa, wb, wc, two_len, hr0])); refine call_pure (oc) rfl ?_; simp only [go_sem, wa, wb, wc, two_len, hr0]; (repeat (refine regA_by 0 rfl ?_; simp only [go_sem, wa, wb, wc, two_len, hr0])); refine call_pure (o7) rfl ?_; simp only [go_sem, wa, wb, wc, two_len, hr0]; (repeat (refine regA_by 0 rfl ?_; simp only [go_sem, wa, wb, wc, two_len, hr0])))
  · have hT1 : T < 1 := by
      by_cases h : T < 1
      · exact h
      · exact (hgood 0 (by omega) (hb.2 e)).elim
    unfold solT at hS
    rw [if_pos hT1] at hS
    have hr0 : (r.sign = 0) = False := eq_false fun h => e (by rw [← hr]; exact Int.sign_eq_zero_iff_zero.1 h)
    simp only [go_sem]
    ((repeat (refine regA_by 0 rfl ?_; simp only [go_sem, wa, wb, wc, two_len])); refine call_pure (hk) rfl ?_; simp only [go_sem, wa, wb, wc, two_len]; (repeat (refine regA_by 0 rfl ?_; simp only [go_sem, wa, wb, wc, two_len])); refine call_pure (oa) rfl ?_; simp only [go_sem, wa, wb, wc, two_len]; (repeat (refine regA_by 0 rfl ?_; simp only [go_sem, wa, wb, wc, two_len])); refine call_pure (ob) rfl ?_; simp only [go_sem, wa, wb, wc, two_len]; (repeat (refine regA_by 0 rfl ?_; simp only [go_sem, wa, wb, wc, two_len])); refine call_pure (oc) rfl ?_; simp only [go_sem, wa, wb, wc, two_len]; (repeat (refine regA_by 0 rfl ?_; simp only [go_sem, wa, wb, wc, two_len])); refine call_pure (hS) rfl ?_; simp only [go_sem, wa, wb, wc, two_len]; (repeat (refine regA_by 0 rfl ?_; simp only [go_sem, wa, wb, wc, two_len])); refine call_pure (o1) rfl ?_; simp only [go_sem, wa, wb, wc, two_len]; (repeat (refine regA_by 0 rfl ?_; simp only [go_sem, wa, wb, wc, two_len])); refine call_pure (oc) rfl ?_; simp only [go_sem, wa, wb, wc, two_len]; (repeat (refine regA_by 0 rfl ?_; simp only [go_sem, wa, wb, wc, two_len])); refine call_pure (o2) rfl ?_; simp only [go_sem, wa, wb, wc, two_len]; (repeat (refine regA_by 0 rfl ?_; simp only [go_sem, wa, wb, wc, two_len])); refine call_pure (o3) rfl ?_; simp only [go_sem, wa, wb, wc, two_len]; (repeat (refine regA_by 0 rfl ?_; simp only [go_sem, wa, wb, wc, two_len])))
    simp only [go_sem, hr0]
    (repeat (refine regA_by 0 rfl ?_; simp only [go_sem, wa, wb, wc, two_len, hr0]))
end Go.Proofs.Ytjmbhknhiakkpaa
namespace Go.Proofs.Ytjmbhknhiakkpaa
open Go Go.Abs Go.ChangeShapes Go.WideShapes Go.ChangeAt Go.RowKit
set_option maxRecDepth 100000
theorem hermiteTwo_lifted (os : Os) (started : os.Started) (H : Type) (enc : TypeId × Value → H) :
    ReturnsInHanded {} Try.checked os 8 .any (Rows.hermiteTwoSpec.pre6 enc Try.prog Try.f8 Rows.hermiteTwoRow.domain false) (Rows.hermiteTwoSpec.post enc Try.prog Try.f8 false true false false) := by
  refine returnsInHanded_of_change (C := Try.checked) Try.ownK started (by kernel_rfl) Try.func8
    (ChangeSpec.witness6 (enc := enc) (C := Try.checked) false ⟨#[], #[.int .i16 0, .int .i16 0, .int .i16 0], []⟩ 8 (by kernel_rfl) (by kernel_rfl) (by kernel_rfl) (by kernel_rfl)) ?_
  intro W base args ds gs before hval hW _ _
  refine row_of_pcall (S := plainS) (tb := 4) plain_ok Try.laidOut (by intro t ht; revert t; decide +kernel) rfl Try.underlying4 rfl (fun ds h => ?_) (fun tvs h => ?_) hval hW
  · match ds, h with
    | [d0, d1, d2], _ => rfl
  · obtain ⟨x0, _, rfl, h0, h⟩ := wtvs_cons h
    obtain ⟨x1, _, rfl, h1, h⟩ := wtvs_cons h
    obtain ⟨x2, _, rfl, h2, h⟩ := wtvs_cons h
    obtain rfl := wtvs_nil h
    obtain ⟨n0, rfl, k0⟩ := wtv_int Try.underlying49 h0
    have k0 := wf_i16 k0
    obtain ⟨n1, rfl, k1⟩ := wtv_int Try.underlying49 h1
    have k1 := wf_i16 k1
    obtain ⟨n2, rfl, k2⟩ := wtv_int Try.underlying49 h2
    have k2 := wf_i16 k2
    exact p_HermiteTwo n0 k0.1 k0.2 n1 k1.1 k1.2 n2 k2.1 k2.2

theorem hermiteTwo_holds : Rows.HermiteTwoSaid :=
  OpenClaim.holds_of_wide 8 Try.f8 rfl rfl rfl rfl rfl rfl rfl ⟨rfl, rfl, rfl, rfl, rfl⟩ rfl rfl rfl rfl rfl (by kernel_rfl) Try.func8 (by kernel_rfl)
    (of_decide_eq_true (by kernel_rfl)) (by unfold Func.isWrapper; first | (rw [if_pos (by decide +kernel)]; kernel_rfl) | (rw [if_neg (by decide +kernel)]; exact ⟨rfl, rfl⟩))
    (fun os started H enc _ => hermiteTwo_lifted os started H enc)
end Go.Proofs.Ytjmbhknhiakkpaa
