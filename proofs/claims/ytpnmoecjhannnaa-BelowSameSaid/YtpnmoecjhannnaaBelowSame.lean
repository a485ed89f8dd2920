/- At every input the call answers true and leaves its arguments as they were; no conditions. -/
import Derived.Test.YtpnmoecjhannnaaPe
import Derived.Test.YtpnmoecjhannnaaQe
set_option linter.unusedSimpArgs false
set_option linter.unusedVariables false
namespace Go.Proofs.Ytpnmoecjhannnaa
open Go Go.Abs
set_option maxHeartbeats 16000000
set_option maxRecDepth 100000 in
theorem p_BelowSame (a : LL) (ha : LLok a) (x : List (Bool × List Nat)) (hx : x.length ≤ maxLen) : PCall Try.prog 11 [gL a, tLI x] (tB true) := by
  have hk := known7
  by_cases f1 : FL a
  · have q1 := tB_of (fewLin7 a ha) f1
    by_cases f2 : FP x
    · have q2 := tB_of (fewPoint7 x hx) f2
      have A := f1.bl ha
      have xl := f2.2
      have xk : ∀ q ∈ x, q.2.length ≤ 4 := f2.1
      have bd := Bd_lv A
      have wf := WF_lv a
      have r1 := b_Norm a (N := 8) (L := 4) (by decide) (by decide) A
      have r2 := b_Holds a x (N := 8) (L := 4) (K := 4) (by decide) (by decide) (by decide) A (by omega) xk
      have r4 := b_Not a (N := 8) (L := 4) (by decide) (by decide) (by decide) A
      have wn := WF_norm wf
      have bn := Bd_norm bd
      have wt := WF_not wf
      have bt := Bd_not (by decide) bd
      have r3 := b_Norm_e (normF (lv a)) (N := 8) (L := 5) (by decide) (by decide) wn bn
      rw [norm_norm wf, cl_norm] at r3
      have r5 := b_Holds_e (normF (lv a)) x (N := 8) (L := 5) (K := 4) (by decide) (by decide) (by decide) wn bn (by omega) xk
      have r5 := tB_iffB r5 (norm_holds wf (ptX x))
      have r6 := b_Holds_e (notF (lv a)) x (N := 8) (L := 6) (K := 4) (by decide) (by decide) (by decide) wt bt (by omega) xk
      rw [at_not] at r6
      have r6 := tB_iffB (q := ¬ atF (lv a) (ptX x) ≤ 0) r6 (by omega)
      have r7 := b_Not_e (notF (lv a)) (N := 8) (L := 6) (by decide) (by decide) (by decide) wt bt
      have r8 := b_Holds_e (notF (notF (lv a))) x (N := 8) (L := 8) (K := 4) (by decide) (by decide) (by decide) (WF_not wt) (Bd_not (by decide) bt) (by omega) xk
      rw [at_not, at_not] at r8
      have r8 := tB_iffB (q := atF (lv a) (ptX x) ≤ 0) r8 (by omega)
      have r9 := tB_of (f6_Equal (normF (lv a)) (normF (lv a)) (by decide) (by decide) bn bn) rfl
      have hc := cl3 (lv a)
      generalize notF (notF (lv a)) = F3 at *
      generalize notF (lv a) = F2 at *
      generalize normF (lv a) = F1 at *
      generalize clF (lv a) = C at *
      have hc' := hc
      clear bd wf wn bn wt bt hc
      rcases hc' with rfl | ⟨rfl, h⟩ | ⟨rfl, h⟩
      · by_cases hh : atF (lv a) (ptX x) ≤ 0
        · have r2 := tB_of r2 hh
          have r5 := tB_of r5 hh
          have r6 := tB_not r6 (fun h => h hh)
          have r8 := tB_of r8 hh
          refine pcall_of_wpA mixed Try.call11 Try.func11 rfl Try.ntmps11 Try.results11 (by simp) (by decide) ?_
          simp only [go_sem]
          ((repeat (refine regA_by 0 rfl ?_; simp only [go_sem])); refine call_pure (hk) rfl ?_; simp only [go_sem]; (repeat (refine regA_by 0 rfl ?_; simp only [go_sem])); refine call_pure (q1) rfl ?_; simp only [go_sem]; (repeat (refine regA_by 0 rfl ?_; simp only [go_sem])); refine call_pure (q2) rfl ?_; simp only [go_sem]; (repeat (refine regA_by 0 rfl ?_; simp only [go_sem])); refine call_pure (r1) rfl ?_; simp only [go_sem]; (repeat (refine regA_by 0 rfl ?_; simp only [go_sem])); refine call_pure (r2) rfl ?_; simp only [go_sem]; (repeat (refine regA_by 0 rfl ?_; simp only [go_sem])); refine call_pure (r3) rfl ?_; simp only [go_sem]; (repeat (refine regA_by 0 rfl ?_; simp only [go_sem])); refine call_pure (r5) rfl ?_; simp only [go_sem]; (repeat (refine regA_by 0 rfl ?_; simp only [go_sem])); refine call_pure (r4) rfl ?_; simp only [go_sem]; (repeat (refine regA_by 0 rfl ?_; simp only [go_sem])); refine call_pure (r6) rfl ?_; simp only [go_sem]; (repeat (refine regA_by 0 rfl ?_; simp only [go_sem])); refine call_pure (r4) rfl ?_; simp only [go_sem]; (repeat (refine regA_by 0 rfl ?_; simp only [go_sem])); refine call_pure (r7) rfl ?_; simp only [go_sem]; (repeat (refine regA_by 0 rfl ?_; simp only [go_sem])); refine call_pure (r8) rfl ?_; simp only [go_sem]; (repeat (refine regA_by 0 rfl ?_; simp only [go_sem])); refine call_pure (r9) rfl ?_; simp only [go_sem]; (repeat (refine regA_by 0 rfl ?_; simp only [go_sem])))
        · have r2 := tB_not r2 hh
          have r5 := tB_not r5 hh
          have r6 := tB_of r6 hh
          have r8 := tB_not r8 hh
          refine pcall_of_wpA mixed Try.call11 Try.func11 rfl Try.ntmps11 Try.results11 (by simp) (by decide) ?_
          simp only [go_sem]
          ((repeat (refine regA_by 0 rfl ?_; simp only [go_sem])); refine call_pure (hk) rfl ?_; simp only [go_sem]; (repeat (refine regA_by 0 rfl ?_; simp only [go_sem])); refine call_pure (q1) rfl ?_; simp only [go_sem]; (repeat (refine regA_by 0 rfl ?_; simp only [go_sem])); refine call_pure (q2) rfl ?_; simp only [go_sem]; (repeat (refine regA_by 0 rfl ?_; simp only [go_sem])); refine call_pure (r1) rfl ?_; simp only [go_sem]; (repeat (refine regA_by 0 rfl ?_; simp only [go_sem])); refine call_pure (r2) rfl ?_; simp only [go_sem]; (repeat (refine regA_by 0 rfl ?_; simp only [go_sem])); refine call_pure (r3) rfl ?_; simp only [go_sem]; (repeat (refine regA_by 0 rfl ?_; simp only [go_sem])); refine call_pure (r5) rfl ?_; simp only [go_sem]; (repeat (refine regA_by 0 rfl ?_; simp only [go_sem])); refine call_pure (r4) rfl ?_; simp only [go_sem]; (repeat (refine regA_by 0 rfl ?_; simp only [go_sem])); refine call_pure (r6) rfl ?_; simp only [go_sem]; (repeat (refine regA_by 0 rfl ?_; simp only [go_sem])); refine call_pure (r4) rfl ?_; simp only [go_sem]; (repeat (refine regA_by 0 rfl ?_; simp only [go_sem])); refine call_pure (r7) rfl ?_; simp only [go_sem]; (repeat (refine regA_by 0 rfl ?_; simp only [go_sem])); refine call_pure (r8) rfl ?_; simp only [go_sem]; (repeat (refine regA_by 0 rfl ?_; simp only [go_sem])); refine call_pure (r9) rfl ?_; simp only [go_sem]; (repeat (refine regA_by 0 rfl ?_; simp only [go_sem])))
      · have hh := h (ptX x)
        have r2 := tB_of r2 hh
        have r5 := tB_of r5 hh
        have r6 := tB_not r6 (fun h => h hh)
        have r8 := tB_of r8 hh
        refine pcall_of_wpA mixed Try.call11 Try.func11 rfl Try.ntmps11 Try.results11 (by simp) (by decide) ?_
        simp only [go_sem]
        ((repeat (refine regA_by 0 rfl ?_; simp only [go_sem])); refine call_pure (hk) rfl ?_; simp only [go_sem]; (repeat (refine regA_by 0 rfl ?_; simp only [go_sem])); refine call_pure (q1) rfl ?_; simp only [go_sem]; (repeat (refine regA_by 0 rfl ?_; simp only [go_sem])); refine call_pure (q2) rfl ?_; simp only [go_sem]; (repeat (refine regA_by 0 rfl ?_; simp only [go_sem])); refine call_pure (r1) rfl ?_; simp only [go_sem]; (repeat (refine regA_by 0 rfl ?_; simp only [go_sem])); refine call_pure (r2) rfl ?_; simp only [go_sem]; (repeat (refine regA_by 0 rfl ?_; simp only [go_sem])); refine call_pure (r3) rfl ?_; simp only [go_sem]; (repeat (refine regA_by 0 rfl ?_; simp only [go_sem])); refine call_pure (r5) rfl ?_; simp only [go_sem]; (repeat (refine regA_by 0 rfl ?_; simp only [go_sem])); refine call_pure (r4) rfl ?_; simp only [go_sem]; (repeat (refine regA_by 0 rfl ?_; simp only [go_sem])); refine call_pure (r6) rfl ?_; simp only [go_sem]; (repeat (refine regA_by 0 rfl ?_; simp only [go_sem])); refine call_pure (r4) rfl ?_; simp only [go_sem]; (repeat (refine regA_by 0 rfl ?_; simp only [go_sem])); refine call_pure (r7) rfl ?_; simp only [go_sem]; (repeat (refine regA_by 0 rfl ?_; simp only [go_sem])); refine call_pure (r8) rfl ?_; simp only [go_sem]; (repeat (refine regA_by 0 rfl ?_; simp only [go_sem])); refine call_pure (r9) rfl ?_; simp only [go_sem]; (repeat (refine regA_by 0 rfl ?_; simp only [go_sem])))
      · have hh := h (ptX x)
        have r2 := tB_not r2 hh
        have r5 := tB_not r5 hh
        have r6 := tB_of r6 hh
        have r8 := tB_not r8 hh
        refine pcall_of_wpA mixed Try.call11 Try.func11 rfl Try.ntmps11 Try.results11 (by simp) (by decide) ?_
        simp only [go_sem]
        ((repeat (refine regA_by 0 rfl ?_; simp only [go_sem])); refine call_pure (hk) rfl ?_; simp only [go_sem]; (repeat (refine regA_by 0 rfl ?_; simp only [go_sem])); refine call_pure (q1) rfl ?_; simp only [go_sem]; (repeat (refine regA_by 0 rfl ?_; simp only [go_sem])); refine call_pure (q2) rfl ?_; simp only [go_sem]; (repeat (refine regA_by 0 rfl ?_; simp only [go_sem])); refine call_pure (r1) rfl ?_; simp only [go_sem]; (repeat (refine regA_by 0 rfl ?_; simp only [go_sem])); refine call_pure (r2) rfl ?_; simp only [go_sem]; (repeat (refine regA_by 0 rfl ?_; simp only [go_sem])); refine call_pure (r3) rfl ?_; simp only [go_sem]; (repeat (refine regA_by 0 rfl ?_; simp only [go_sem])); refine call_pure (r5) rfl ?_; simp only [go_sem]; (repeat (refine regA_by 0 rfl ?_; simp only [go_sem])); refine call_pure (r4) rfl ?_; simp only [go_sem]; (repeat (refine regA_by 0 rfl ?_; simp only [go_sem])); refine call_pure (r6) rfl ?_; simp only [go_sem]; (repeat (refine regA_by 0 rfl ?_; simp only [go_sem])); refine call_pure (r4) rfl ?_; simp only [go_sem]; (repeat (refine regA_by 0 rfl ?_; simp only [go_sem])); refine call_pure (r7) rfl ?_; simp only [go_sem]; (repeat (refine regA_by 0 rfl ?_; simp only [go_sem])); refine call_pure (r8) rfl ?_; simp only [go_sem]; (repeat (refine regA_by 0 rfl ?_; simp only [go_sem])); refine call_pure (r9) rfl ?_; simp only [go_sem]; (repeat (refine regA_by 0 rfl ?_; simp only [go_sem])))
    · have q2 := tB_not (fewPoint7 x hx) f2
      refine pcall_of_wpA mixed Try.call11 Try.func11 rfl Try.ntmps11 Try.results11 (by simp) (by decide) ?_
      simp only [go_sem]
      (repeat (first | (refine regA_by 0 rfl ?_; simp only [go_sem]) | (refine call_pure (hk) rfl ?_; simp only [go_sem]) | (refine call_pure (q1) rfl ?_; simp only [go_sem]) | (refine call_pure (q2) rfl ?_; simp only [go_sem])))
  · have q1 := tB_not (fewLin7 a ha) f1
    refine pcall_of_wpA mixed Try.call11 Try.func11 rfl Try.ntmps11 Try.results11 (by simp) (by decide) ?_
    simp only [go_sem]
    (repeat (first | (refine regA_by 0 rfl ?_; simp only [go_sem]) | (refine call_pure (hk) rfl ?_; simp only [go_sem]) | (refine call_pure (q1) rfl ?_; simp only [go_sem])))
end Go.Proofs.Ytpnmoecjhannnaa
namespace Go.Proofs.Ytpnmoecjhannnaa
open Go Go.Abs Go.ChangeShapes Go.WideShapes Go.ChangeAt Go.RowKit
set_option maxRecDepth 100000
theorem belowSame_lifted (os : Os) (started : os.Started) (H : Type) (enc : TypeId × Value → H) :
    ReturnsInHanded {} Try.checked os 11 .any (Rows.belowSameSpec.pre6 enc Try.prog Try.f11 Rows.belowSameRow.domain false) (Rows.belowSameSpec.post enc Try.prog Try.f11 false true false false) := by
  refine returnsInHanded_of_change (C := Try.checked) Try.ownK started (by kernel_rfl) Try.func11
    (ChangeSpec.witness6 (enc := enc) (C := Try.checked) false ⟨#[], #[.agg #[.slice none 0 0, .bool false, .slice none 0 0], .slice none 0 0], []⟩ 8 (by kernel_rfl) (by kernel_rfl) (by kernel_rfl) (by kernel_rfl)) ?_
  intro W base args ds gs before hval hW _ _
  refine row_of_pcall (S := plainS) (tb := 4) plain_ok Try.laidOut (by intro t ht; revert t; decide +kernel) rfl Try.underlying4 rfl (fun ds h => ?_) (fun tvs h => ?_) hval hW
  · match ds, h with
    | [d0, d1], _ => rfl
  · obtain ⟨x0, _, rfl, h0, h⟩ := wtvs_cons h
    obtain ⟨x1, _, rfl, h1, h⟩ := wtvs_cons h
    obtain rfl := wtvs_nil h
    obtain ⟨l0, rfl, k0⟩ := wtv_Lin h0
    obtain ⟨l1, rfl, j1⟩ := wtv_Ints h1
    exact p_BelowSame l0 k0 l1 j1

theorem belowSame_holds : Rows.BelowSameSaid :=
  OpenClaim.holds_of_wide 11 Try.f11 rfl rfl rfl rfl rfl rfl rfl ⟨rfl, rfl, rfl, rfl, rfl⟩ rfl rfl rfl rfl rfl (by kernel_rfl) Try.func11 (by kernel_rfl)
    (of_decide_eq_true (by kernel_rfl)) (by unfold Func.isWrapper; first | (rw [if_pos (by decide +kernel)]; kernel_rfl) | (rw [if_neg (by decide +kernel)]; exact ⟨rfl, rfl⟩))
    (fun os started H enc _ => belowSame_lifted os started H enc)
end Go.Proofs.Ytpnmoecjhannnaa
