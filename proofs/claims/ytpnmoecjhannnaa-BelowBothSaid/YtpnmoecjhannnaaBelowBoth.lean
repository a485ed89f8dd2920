/- At every input the call answers true and leaves its arguments as they were; no conditions. -/
import Derived.Test.YtpnmoecjhannnaaPe
import Derived.Test.YtpnmoecjhannnaaQe
set_option linter.unusedSimpArgs false
set_option linter.unusedVariables false
namespace Go.Proofs.Ytpnmoecjhannnaa
open Go Go.Abs
set_option maxHeartbeats 16000000
set_option maxRecDepth 100000 in
theorem p_BelowBoth (a : LL) (ha : LLok a) (x : List (Bool × List Nat)) (hx : x.length ≤ maxLen) : PCall Try.prog 13 [gL a, tLI x] (tB true) := by
  have hk := known7
  by_cases f1 : FL a
  · have q1 := tB_of (fewLin7 a ha) f1
    by_cases f2 : FP x
    · have q2 := tB_of (fewPoint7 x hx) f2
      have A := f1.bl ha
      have xl := f2.2
      have xk : ∀ q ∈ x, q.2.length ≤ 4 := f2.1
      have bd := Bd_lv A
      have wf := WF_lv a
      have wt := WF_not wf
      have bt := Bd_not (by decide) bd
      have A6 : BL 8 6 a := A.mono (by decide) (by decide)
      have N6 := BL_enc bt
      have r1 := b_Not a (N := 8) (L := 4) (by decide) (by decide) (by decide) A
      have all : ∀ ls : List LL, ls.length < 100 → (∀ l ∈ ls, BL 8 6 l) → PCall Try.prog 72 [.one (eL cL ls), tLI x] (tB (decide (∀ l ∈ ls, atF (lv l) (ptX x) ≤ 0))) := fun ls h hb => b_All ls x (N := 8) (L := 6) (K := 4) (by decide) (by decide) (by decide) (by omega) hb (by omega) xk
      have eN : lv (encL (notF (lv a))) = notF (lv a) := lv_enc wt
      have cn : cL (encL (notF (lv a))) = cF (notF (lv a)) := by
        have := gL_encL (notF (lv a)); injection this
      have r2 := all [a, encL (notF (lv a))] (by simp) (fun l hl => by
        rcases List.mem_cons.1 hl with rfl | hl
        · exact A6
        · obtain rfl := List.mem_singleton.1 hl; exact N6)
      have r2 := tB_not r2 (fun h => by
        have h1 := h a (List.mem_cons_self ..)
        have h2 := h (encL (notF (lv a))) (by simp)
        rw [eN, at_not] at h2
        omega)
      have r3 := all [a] (by simp) (fun l hl => by obtain rfl := List.mem_singleton.1 hl; exact A6)
      have r4 := all [encL (notF (lv a))] (by simp) (fun l hl => by obtain rfl := List.mem_singleton.1 hl; exact N6)
      have r5 := all [a, a] (by simp) (fun l hl => by
        rcases List.mem_cons.1 hl with rfl | hl
        · exact A6
        · obtain rfl := List.mem_singleton.1 hl; exact A6)
      have r6 := b_Holds a x (N := 8) (L := 4) (K := 4) (by decide) (by decide) (by decide) A (by omega) xk
      have r3 := tB_iffB (q := atF (lv a) (ptX x) ≤ 0) r3 (by simp)
      have r5 := tB_iffB (q := atF (lv a) (ptX x) ≤ 0) r5 (by simp)
      have r4 := tB_iffB (q := ¬ atF (lv a) (ptX x) ≤ 0) r4 (by
        constructor
        · intro h
          have := h _ (List.mem_singleton.2 rfl)
          rw [eN, at_not] at this; omega
        · intro h l hl
          obtain rfl := List.mem_singleton.1 hl
          rw [eN, at_not]; omega)
      have r2 : PCall Try.prog 72 [.one (.seq (some false) [cL a, cF (notF (lv a))]), tLI x] (tB false) := by
        rw [show eL cL [a, encL (notF (lv a))] = .seq none [cL a, cL (encL (notF (lv a)))] from rfl, cn] at r2
        exact r2.tw (.cons (.one .weak) (.cons .refl1 .nil))
      have r3 : PCall Try.prog 72 [.one (.seq (some false) [cL a]), tLI x] _ := r3.tw (.cons (.one .weak) (.cons .refl1 .nil))
      have r5 : PCall Try.prog 72 [.one (.seq (some false) [cL a, cL a]), tLI x] _ := r5.tw (.cons (.one .weak) (.cons .refl1 .nil))
      have r4 : PCall Try.prog 72 [.one (.seq (some false) [cF (notF (lv a))]), tLI x] (tB (decide (¬ atF (lv a) (ptX x) ≤ 0))) := by
        rw [show eL cL [encL (notF (lv a))] = .seq none [cL (encL (notF (lv a)))] from rfl, cn] at r4
        exact r4.tw (.cons (.one .weak) (.cons .refl1 .nil))
      clear eN cn N6 A6 all
      generalize notF (lv a) = F2 at *
      by_cases hh : atF (lv a) (ptX x) ≤ 0
      · have r3 := tB_of r3 hh
        have r5 := tB_of r5 hh
        have r6 := tB_of r6 hh
        refine pcall_of_wpA mixed Try.call13 Try.func13 rfl Try.ntmps13 Try.results13 (by simp) (by decide) ?_
        simp only [go_sem]
        ((repeat (refine regA_by 0 rfl ?_; simp only [go_sem])); refine call_pure (hk) rfl ?_; simp only [go_sem]; (repeat (refine regA_by 0 rfl ?_; simp only [go_sem])); refine call_pure (q1) rfl ?_; simp only [go_sem]; (repeat (refine regA_by 0 rfl ?_; simp only [go_sem])); refine call_pure (q2) rfl ?_; simp only [go_sem]; (repeat (refine regA_by 0 rfl ?_; simp only [go_sem])); refine call_pure (r1) rfl ?_; simp only [go_sem]; (repeat (refine regA_by 0 rfl ?_; simp only [go_sem])); refine call_pure (r2) rfl ?_; simp only [go_sem]; (repeat (refine regA_by 0 rfl ?_; simp only [go_sem])); refine call_pure (r3) rfl ?_; simp only [go_sem]; (repeat (refine regA_by 0 rfl ?_; simp only [go_sem])); refine call_pure (r5) rfl ?_; simp only [go_sem]; (repeat (refine regA_by 0 rfl ?_; simp only [go_sem])); refine call_pure (r6) rfl ?_; simp only [go_sem]; (repeat (refine regA_by 0 rfl ?_; simp only [go_sem])))
      · have r3 := tB_not r3 hh
        have r4 := tB_of r4 hh
        have r5 := tB_not r5 hh
        have r6 := tB_not r6 hh
        refine pcall_of_wpA mixed Try.call13 Try.func13 rfl Try.ntmps13 Try.results13 (by simp) (by decide) ?_
        simp only [go_sem]
        ((repeat (refine regA_by 0 rfl ?_; simp only [go_sem])); refine call_pure (hk) rfl ?_; simp only [go_sem]; (repeat (refine regA_by 0 rfl ?_; simp only [go_sem])); refine call_pure (q1) rfl ?_; simp only [go_sem]; (repeat (refine regA_by 0 rfl ?_; simp only [go_sem])); refine call_pure (q2) rfl ?_; simp only [go_sem]; (repeat (refine regA_by 0 rfl ?_; simp only [go_sem])); refine call_pure (r1) rfl ?_; simp only [go_sem]; (repeat (refine regA_by 0 rfl ?_; simp only [go_sem])); refine call_pure (r2) rfl ?_; simp only [go_sem]; (repeat (refine regA_by 0 rfl ?_; simp only [go_sem])); refine call_pure (r3) rfl ?_; simp only [go_sem]; (repeat (refine regA_by 0 rfl ?_; simp only [go_sem])); refine call_pure (r4) rfl ?_; simp only [go_sem]; (repeat (refine regA_by 0 rfl ?_; simp only [go_sem])); refine call_pure (r5) rfl ?_; simp only [go_sem]; (repeat (refine regA_by 0 rfl ?_; simp only [go_sem])); refine call_pure (r6) rfl ?_; simp only [go_sem]; (repeat (refine regA_by 0 rfl ?_; simp only [go_sem])))
    · have q2 := tB_not (fewPoint7 x hx) f2
      refine pcall_of_wpA mixed Try.call13 Try.func13 rfl Try.ntmps13 Try.results13 (by simp) (by decide) ?_
      simp only [go_sem]
      ((repeat (refine regA_by 0 rfl ?_; simp only [go_sem])); refine call_pure (hk) rfl ?_; simp only [go_sem]; (repeat (refine regA_by 0 rfl ?_; simp only [go_sem])); refine call_pure (q1) rfl ?_; simp only [go_sem]; (repeat (refine regA_by 0 rfl ?_; simp only [go_sem])); refine call_pure (q2) rfl ?_; simp only [go_sem]; (repeat (refine regA_by 0 rfl ?_; simp only [go_sem])))
  · have q1 := tB_not (fewLin7 a ha) f1
    refine pcall_of_wpA mixed Try.call13 Try.func13 rfl Try.ntmps13 Try.results13 (by simp) (by decide) ?_
    simp only [go_sem]
    ((repeat (refine regA_by 0 rfl ?_; simp only [go_sem])); refine call_pure (hk) rfl ?_; simp only [go_sem]; (repeat (refine regA_by 0 rfl ?_; simp only [go_sem])); refine call_pure (q1) rfl ?_; simp only [go_sem]; (repeat (refine regA_by 0 rfl ?_; simp only [go_sem])))
end Go.Proofs.Ytpnmoecjhannnaa
namespace Go.Proofs.Ytpnmoecjhannnaa
open Go Go.Abs Go.ChangeShapes Go.WideShapes Go.ChangeAt Go.RowKit
set_option maxRecDepth 100000
theorem belowBoth_lifted (os : Os) (started : os.Started) (H : Type) (enc : TypeId × Value → H) :
    ReturnsInHanded {} Try.checked os 13 .any (Rows.belowBothSpec.pre6 enc Try.prog Try.f13 Rows.belowBothRow.domain false) (Rows.belowBothSpec.post enc Try.prog Try.f13 false true false false) := by
  refine returnsInHanded_of_change (C := Try.checked) Try.ownK started (by kernel_rfl) Try.func13
    (ChangeSpec.witness6 (enc := enc) (C := Try.checked) false ⟨#[], #[.agg #[.slice none 0 0, .bool false, .slice none 0 0], .slice none 0 0], []⟩ 8 (by kernel_rfl) (by kernel_rfl) (by kernel_rfl) (by kernel_rfl)) ?_
  intro W base args ds gs before hval hW _ _
  refine row_of_pcall (S := plainS) (tb := 4) plain_ok Try.laidOut (by intro t ht; revert t; decide +kernel) rfl Try.underlying4 rfl (fun ds h => ?_) (fun tvs h => ?_) hval hW
  · match ds, h with
    | [d0, d1], _ => rfl
  · obtain ⟨x0, _, rfl, h0, h⟩ := wtvs_cons h
    obtain ⟨x1, _, rfl, h1, h⟩ := wtvs_cons h
    obtain rfl := wtvs_nil h
    obtain ⟨l0, rfl, k0⟩ := wtv_Lin h0
    obtain ⟨l1, rfl, j1⟩ := wtv_Ints h1
    exact p_BelowBoth l0 k0 l1 j1

theorem belowBoth_holds : Rows.BelowBothSaid :=
  OpenClaim.holds_of_wide 13 Try.f13 rfl rfl rfl rfl rfl rfl rfl ⟨rfl, rfl, rfl, rfl, rfl⟩ rfl rfl rfl rfl rfl (by kernel_rfl) Try.func13 (by kernel_rfl)
    (of_decide_eq_true (by kernel_rfl)) (by unfold Func.isWrapper; first | (rw [if_pos (by decide +kernel)]; kernel_rfl) | (rw [if_neg (by decide +kernel)]; exact ⟨rfl, rfl⟩))
    (fun os started H enc _ => belowBoth_lifted os started H enc)
end Go.Proofs.Ytpnmoecjhannnaa
