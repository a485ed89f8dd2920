/- At every input the call answers true and leaves its arguments as they were; no conditions. -/
import Derived.Test.YtpnmoecjhannnaaPe
import Derived.Test.YtpnmoecjhannnaaQe
set_option linter.unusedSimpArgs false
set_option linter.unusedVariables false
namespace Go.Proofs.Ytpnmoecjhannnaa
open Go Go.Abs
set_option maxHeartbeats 16000000
set_option maxRecDepth 100000 in
theorem p_BelowTells (a : LL) (ha : LLok a) (ls : List LL) (hls : ls.length ≤ maxLen) (hl : ∀ l ∈ ls, LLok l) (x : List (Bool × List Nat)) (hx : x.length ≤ maxLen) : PCall Try.prog 10 [gL a, .one (eL cL ls), tLI x] (tB true) := by
  have hk := known7
  by_cases f1 : FL a
  · have q1 := tB_of (fewLin7 a ha) f1
    by_cases f3 : ls.length ≤ 8
    · have f3' : ((8 : Int) < (ls.length : Int)) = False := eq_false (by omega)
      by_cases f2 : FP x
      · have q2 := tB_of (fewPoint7 x hx) f2
        have A := f1.bl ha
        have xl := f2.2
        have xk : ∀ q ∈ x, q.2.length ≤ 4 := f2.1
        refine pcall_of_wpA mixed Try.call10 Try.func10 rfl Try.ntmps10 Try.results10 (by simp) (by decide) ?_
        simp only [go_sem]
        ((repeat (refine regA_by 0 rfl ?_; simp only [go_sem, f3'])); refine call_pure (hk) rfl ?_; simp only [go_sem, f3']; (repeat (refine regA_by 0 rfl ?_; simp only [go_sem, f3'])); refine call_pure (q1) rfl ?_; simp only [go_sem, f3']; (repeat (refine regA_by 0 rfl ?_; simp only [go_sem, f3'])); refine call_pure (q2) rfl ?_; simp only [go_sem, f3']; (repeat (refine regA_by 0 rfl ?_; simp only [go_sem, f3'])))
        refine loop_inv (fun i : Nat => stL 82 [(1, .one (.t (eL cL ls))), (2, aLI x), (3, .one (.ptr 3 0)), (7, litI .i64 i)] [(3, (cL a).map .t)]) (fun i => i ≤ ls.length ∧ ∀ l ∈ ls.take i, FL l) (fun i => ls.length - i) 0 ?_ ⟨Nat.zero_le _, by rw [List.take_zero]; intro m hm; cases hm⟩ ?_
        · (refine gstep_list rfl ?_ ?_ ?_ ?_ <;> (try simp only [go_sem, tail_one]) <;> (try simp))
        · rintro i ⟨hi, hinv⟩
          simp only [go_sem]
          refine CondR_if (fun hlt => ?_) (fun hge => ?_)
          · have hlt' : i < ls.length := by omega
            have hel : elemD cL ls i = cL ls[i] := elemD_lt hlt'
            have h := fewLin7 ls[i] (hl _ (List.getElem_mem hlt'))
            have hnx : FL ls[i] → ∀ m ∈ ls.take (i + 1), FL m := fun h m hm => by
              rw [take_snoc hlt'] at hm
              rcases List.mem_append.1 hm with hm | hm
              · exact hinv m hm
              · obtain rfl := List.mem_singleton.1 hm; exact h
            generalize ls[i] = l at *
            simp only [go_sem, hel, hlt]
            (repeat (refine And.intro (by omega) ?_))
            by_cases c : FL l
            · have h := tB_of h c
              ((repeat (refine regA_by 0 rfl ?_; simp only [go_sem])); refine call_pure (h) rfl ?_; simp only [go_sem]; (repeat (refine regA_by 0 rfl ?_; simp only [go_sem])))
              refine ⟨i + 1, ⟨hlt', hnx c⟩, (by show ls.length - (i + 1) < ls.length - i; omega), ?_⟩
              (refine gstep_list rfl ?_ ?_ ?_ ?_ <;> (try simp only [go_sem, tail_one, wrap_i64 (n := (i : Int) + 1) (by omega) (by omega)]) <;> (try simp))
            · have h := tB_not h c
              ((repeat (refine regA_by 0 rfl ?_; simp only [go_sem])); refine call_pure (h) rfl ?_; simp only [go_sem]; (repeat (refine regA_by 0 rfl ?_; simp only [go_sem])))
              try rfl
          · obtain rfl : i = ls.length := by omega
            rw [List.take_length] at hinv
            have hlb : ∀ l ∈ ls, BL 8 4 l := fun l hm => (hinv l hm).bl (hl l hm)
            have bd := Bd_lv A
            have r1 := b_Norm a (N := 8) (L := 4) (by decide) (by decide) A
            have r2 := f6_Norm a (N := 8) (L := 4) (by decide) (by decide) A
            have bn := Bd_norm bd
            have r3 := tB_of (f6_Equal (normF (lv a)) (normF (lv a)) (by decide) (by decide) bn bn) rfl
            have r4 := b_Not a (N := 8) (L := 4) (by decide) (by decide) (by decide) A
            have r5 := f6_Not a (N := 8) (L := 4) (by decide) (by decide) (by decide) A
            have bt := Bd_not (by decide) bd
            have r6 := tB_of (f6_Equal (notF (lv a)) (notF (lv a)) (by decide) (by decide) bt bt) rfl
            have r7 := b_Holds a x (N := 8) (L := 4) (K := 4) (by decide) (by decide) (by decide) A (by omega) xk
            have r8 := f6_Holds a x (N := 8) (L := 4) (K := 4) (by decide) (by decide) (by decide) A (by omega) xk
            have r9 := b_All ls x (N := 8) (L := 4) (K := 4) (by decide) (by decide) (by decide) (by omega) hlb (by omega) xk
            have r10 := f6_All ls x (N := 8) (L := 4) (K := 4) (by decide) (by decide) (by decide) (by omega) hlb (by omega) xk
            generalize normF (lv a) = F1 at *
            generalize notF (lv a) = F2 at *
            generalize clF (lv a) = C at *
            generalize decide (atF (lv a) (ptX x) ≤ 0) = D1 at *
            generalize decide (∀ l ∈ ls, atF (lv l) (ptX x) ≤ 0) = D2 at *
            simp only [go_sem]
            ((repeat (refine regA_by 0 rfl ?_; simp only [go_sem, beq_self_eq_true])); refine call_pure (r1) rfl ?_; simp only [go_sem, beq_self_eq_true]; (repeat (refine regA_by 0 rfl ?_; simp only [go_sem, beq_self_eq_true])); refine call_pure (r2) rfl ?_; simp only [go_sem, beq_self_eq_true]; (repeat (refine regA_by 0 rfl ?_; simp only [go_sem, beq_self_eq_true])); refine call_pure (r3) rfl ?_; simp only [go_sem, beq_self_eq_true]; (repeat (refine regA_by 0 rfl ?_; simp only [go_sem, beq_self_eq_true])); refine call_pure (r4) rfl ?_; simp only [go_sem, beq_self_eq_true]; (repeat (refine regA_by 0 rfl ?_; simp only [go_sem, beq_self_eq_true])); refine call_pure (r5) rfl ?_; simp only [go_sem, beq_self_eq_true]; (repeat (refine regA_by 0 rfl ?_; simp only [go_sem, beq_self_eq_true])); refine call_pure (r6) rfl ?_; simp only [go_sem, beq_self_eq_true]; (repeat (refine regA_by 0 rfl ?_; simp only [go_sem, beq_self_eq_true])); refine call_pure (r7) rfl ?_; simp only [go_sem, beq_self_eq_true]; (repeat (refine regA_by 0 rfl ?_; simp only [go_sem, beq_self_eq_true])); refine call_pure (r8) rfl ?_; simp only [go_sem, beq_self_eq_true]; (repeat (refine regA_by 0 rfl ?_; simp only [go_sem, beq_self_eq_true])); refine call_pure (r9) rfl ?_; simp only [go_sem, beq_self_eq_true]; (repeat (refine regA_by 0 rfl ?_; simp only [go_sem, beq_self_eq_true])); refine call_pure (r10) rfl ?_; simp only [go_sem, beq_self_eq_true]; (repeat (refine regA_by 0 rfl ?_; simp only [go_sem, beq_self_eq_true])))
      · have q2 := tB_not (fewPoint7 x hx) f2
        refine pcall_of_wpA mixed Try.call10 Try.func10 rfl Try.ntmps10 Try.results10 (by simp) (by decide) ?_
        simp only [go_sem]
        ((repeat (refine regA_by 0 rfl ?_; simp only [go_sem, f3'])); refine call_pure (hk) rfl ?_; simp only [go_sem, f3']; (repeat (refine regA_by 0 rfl ?_; simp only [go_sem, f3'])); refine call_pure (q1) rfl ?_; simp only [go_sem, f3']; (repeat (refine regA_by 0 rfl ?_; simp only [go_sem, f3'])); refine call_pure (q2) rfl ?_; simp only [go_sem, f3']; (repeat (refine regA_by 0 rfl ?_; simp only [go_sem, f3'])))
    · have f3' : ((8 : Int) < (ls.length : Int)) = True := eq_true (by omega)
      refine pcall_of_wpA mixed Try.call10 Try.func10 rfl Try.ntmps10 Try.results10 (by simp) (by decide) ?_
      simp only [go_sem]
      ((repeat (refine regA_by 0 rfl ?_; simp only [go_sem, f3'])); refine call_pure (hk) rfl ?_; simp only [go_sem, f3']; (repeat (refine regA_by 0 rfl ?_; simp only [go_sem, f3'])); refine call_pure (q1) rfl ?_; simp only [go_sem, f3']; (repeat (refine regA_by 0 rfl ?_; simp only [go_sem, f3'])))
  · have q1 := tB_not (fewLin7 a ha) f1
    refine pcall_of_wpA mixed Try.call10 Try.func10 rfl Try.ntmps10 Try.results10 (by simp) (by decide) ?_
    simp only [go_sem]
    ((repeat (refine regA_by 0 rfl ?_; simp only [go_sem])); refine call_pure (hk) rfl ?_; simp only [go_sem]; (repeat (refine regA_by 0 rfl ?_; simp only [go_sem])); refine call_pure (q1) rfl ?_; simp only [go_sem]; (repeat (refine regA_by 0 rfl ?_; simp only [go_sem])))
end Go.Proofs.Ytpnmoecjhannnaa
namespace Go.Proofs.Ytpnmoecjhannnaa
open Go Go.Abs Go.ChangeShapes Go.WideShapes Go.ChangeAt Go.RowKit
set_option maxRecDepth 100000
theorem belowTells_lifted (os : Os) (started : os.Started) (H : Type) (enc : TypeId × Value → H) :
    ReturnsInHanded {} Try.checked os 10 .any (Rows.belowTellsSpec.pre6 enc Try.prog Try.f10 Rows.belowTellsRow.domain false) (Rows.belowTellsSpec.post enc Try.prog Try.f10 false true false false) := by
  refine returnsInHanded_of_change (C := Try.checked) Try.ownK started (by kernel_rfl) Try.func10
    (ChangeSpec.witness6 (enc := enc) (C := Try.checked) false ⟨#[], #[.agg #[.slice none 0 0, .bool false, .slice none 0 0], .slice none 0 0, .slice none 0 0], []⟩ 8 (by kernel_rfl) (by kernel_rfl) (by kernel_rfl) (by kernel_rfl)) ?_
  intro W base args ds gs before hval hW _ _
  refine row_of_pcall (S := plainS) (tb := 4) plain_ok Try.laidOut (by intro t ht; revert t; decide +kernel) rfl Try.underlying4 rfl (fun ds h => ?_) (fun tvs h => ?_) hval hW
  · match ds, h with
    | [d0, d1, d2], _ => rfl
  · obtain ⟨x0, _, rfl, h0, h⟩ := wtvs_cons h
    obtain ⟨x1, _, rfl, h1, h⟩ := wtvs_cons h
    obtain ⟨x2, _, rfl, h2, h⟩ := wtvs_cons h
    obtain rfl := wtvs_nil h
    obtain ⟨l0, rfl, k0⟩ := wtv_Lin h0
    obtain ⟨l1, rfl, j1, k1⟩ := wtv_Lins h1
    obtain ⟨l2, rfl, j2⟩ := wtv_Ints h2
    exact p_BelowTells l0 k0 l1 j1 k1 l2 j2

theorem belowTells_holds : Rows.BelowTellsSaid :=
  OpenClaim.holds_of_wide 10 Try.f10 rfl rfl rfl rfl rfl rfl rfl ⟨rfl, rfl, rfl, rfl, rfl⟩ rfl rfl rfl rfl rfl (by kernel_rfl) Try.func10 (by kernel_rfl)
    (of_decide_eq_true (by kernel_rfl)) (by unfold Func.isWrapper; first | (rw [if_pos (by decide +kernel)]; kernel_rfl) | (rw [if_neg (by decide +kernel)]; exact ⟨rfl, rfl⟩))
    (fun os started H enc _ => belowTells_lifted os started H enc)
end Go.Proofs.Ytpnmoecjhannnaa
