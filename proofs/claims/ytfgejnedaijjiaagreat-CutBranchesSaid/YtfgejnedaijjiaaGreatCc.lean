/- At every input the call answers true and leaves its arguments as they were; no conditions. -/
import Derived.Test.YtfgejnedaijjiaaGreatCb
import Derived.Test.YtfgejnedaijjiaaGreatPc
import Derived.Test.YtfgejnedaijjiaaGreatPb
set_option linter.unusedSimpArgs false
set_option linter.unusedVariables false
namespace Go.Proofs.YtfgejnedaijjiaaGreat
open Go Go.Abs
set_option maxHeartbeats 8000000
set_option maxRecDepth 100000 in
theorem fewLin21 (l : LL) (hl : LLok l) : PCall Tryz.prog 80 [gL l] (tB (decide (FL l))) := by
  refine pcall_of_wpA mixed Tryz.call80 Tryz.func80 rfl Tryz.ntmps80 Tryz.results80 (by simp) (by decide) ?_
  have hl1 := hl.1
  simp only [go_sem]
  refine loop_inv (fun i : Nat => stL 40 [(1, .one (.ptr 1 0)), (3, litI .i64 i)] [(1, (cL l).map .t)]) (fun i => i ≤ l.1.length ∧ ∀ m ∈ l.1.take i, m.2.2.length ≤ 4 ∧ m.1 ≤ 100) (fun i => l.1.length - i) 0 ?_ ⟨Nat.zero_le _, by rw [List.take_zero]; intro m hm; cases hm⟩ ?_
  · (refine gstep_list rfl ?_ ?_ ?_ ?_ <;> (try simp only [go_sem, tail_one]) <;> (try simp))
  · rintro i ⟨hi, hinv⟩
    simp only [go_sem]
    refine CondR_if (fun hlt => ?_) (fun hge => ?_)
    · have hlt' : i < l.1.length := by omega
      have hel : elemD cM l.1 i = cM l.1[i] := elemD_lt hlt'
      have hbad : ¬ (l.1[i].2.2.length ≤ 4 ∧ l.1[i].1 ≤ 100) → decide (FL l) = false := fun h => decide_eq_false fun hf => h (hf.1 _ (List.getElem_mem hlt'))
      have hnx : (l.1[i].2.2.length ≤ 4 ∧ l.1[i].1 ≤ 100) → ∀ m ∈ l.1.take (i + 1), m.2.2.length ≤ 4 ∧ m.1 ≤ 100 := fun h m hm => by
        rw [take_snoc hlt'] at hm
        rcases List.mem_append.1 hm with hm | hm
        · exact hinv m hm
        · obtain rfl := List.mem_singleton.1 hm; exact h
      generalize l.1[i] = m at *
      simp only [go_sem, hel, hlt]
      (repeat (refine And.intro (by omega) ?_))
      by_cases c1 : m.2.2.length ≤ 4
      · have c1' : ((4 : Int) < (m.2.2.length : Int)) = False := eq_false (by omega)
        by_cases c2 : m.1 ≤ 100
        · have c2' : ((100 : Int) < m.1) = False := eq_false (by omega)
          simp only [go_sem, c1', c2', hel, hlt]
          (repeat (refine And.intro (by omega) ?_))
          refine ⟨i + 1, ⟨hlt', hnx ⟨c1, c2⟩⟩, (by show l.1.length - (i + 1) < l.1.length - i; omega), ?_⟩
          (refine gstep_list rfl ?_ ?_ ?_ ?_ <;> (try simp only [go_sem, tail_one, wrap_i64 (n := (i : Int) + 1) (by omega) (by omega)]) <;> (try simp))
        · have c2' : ((100 : Int) < m.1) = True := eq_true (by omega)
          rw [hbad fun h => c2 h.2]
          simp only [go_sem, c1', c2', hel, hlt]
          try omega
      · have c1' : ((4 : Int) < (m.2.2.length : Int)) = True := eq_true (by omega)
        rw [hbad fun h => c1 h.1]
        simp only [go_sem, c1', hel, hlt]
        try omega
    · obtain rfl : i = l.1.length := by omega
      rw [List.take_length] at hinv
      have e : decide (FL l) = decide (l.1.length ≤ 8 ∧ l.2.2.length ≤ 4) := decide_eq_decide.2 ⟨fun h => h.2, fun h => ⟨hinv, h⟩⟩
      rw [e]
      simp only [go_sem]
      by_cases c1 : l.1.length ≤ 8
      · have c1' : ((l.1.length : Int) ≤ 8) = True := eq_true (by omega)
        simp only [go_sem, c1']
        rw [decide_eq_decide]; omega
      · have c1' : ((l.1.length : Int) ≤ 8) = False := eq_false (by omega)
        simp only [go_sem, c1']
        symm; rw [decide_eq_false_iff_not]; omega
set_option maxRecDepth 100000 in
theorem fewPoint21 (x : List (Bool × List Nat)) (hx : x.length ≤ maxLen) : PCall Tryz.prog 45 [tLI x] (tB (decide (FP x))) := by
  refine pcall_of_wpA mixed Tryz.call45 Tryz.func45 rfl Tryz.ntmps45 Tryz.results45 (by simp) (by decide) ?_
  have hx1 : x.length ≤ 9223372036854775807 := Nat.le_trans hx (by decide)
  simp only [go_sem]
  refine loop_inv (fun i : Nat => stL 20 [(0, aLI x), (3, litI .i64 i)] []) (fun i => i ≤ x.length ∧ ∀ m ∈ x.take i, m.2.length ≤ 4) (fun i => x.length - i) 0 ?_ ⟨Nat.zero_le _, by rw [List.take_zero]; intro m hm; cases hm⟩ ?_
  · (refine gstep_list rfl ?_ ?_ ?_ ?_ <;> (try simp only [go_sem, tail_one]) <;> (try simp))
  · rintro i ⟨hi, hinv⟩
    simp only [go_sem]
    refine CondR_if (fun hlt => ?_) (fun hge => ?_)
    · have hlt' : i < x.length := by omega
      have hel : elemD cI x i = cI x[i] := elemD_lt hlt'
      have hbad : ¬ (x[i].2.length ≤ 4) → decide (FP x) = false := fun h => decide_eq_false fun hf => h (hf.1 _ (List.getElem_mem hlt'))
      have hnx : x[i].2.length ≤ 4 → ∀ m ∈ x.take (i + 1), m.2.length ≤ 4 := fun h m hm => by
        rw [take_snoc hlt'] at hm
        rcases List.mem_append.1 hm with hm | hm
        · exact hinv m hm
        · obtain rfl := List.mem_singleton.1 hm; exact h
      generalize x[i] = m at *
      simp only [go_sem, hel, hlt, cI]
      (repeat (refine And.intro (by omega) ?_))
      by_cases c1 : m.2.length ≤ 4
      · have c1' : ((4 : Int) < (m.2.length : Int)) = False := eq_false (by omega)
        simp only [go_sem, c1']
        refine ⟨i + 1, ⟨hlt', hnx c1⟩, (by show x.length - (i + 1) < x.length - i; omega), ?_⟩
        (refine gstep_list rfl ?_ ?_ ?_ ?_ <;> (try simp only [go_sem, tail_one, wrap_i64 (n := (i : Int) + 1) (by omega) (by omega)]) <;> (try simp))
      · have c1' : ((4 : Int) < (m.2.length : Int)) = True := eq_true (by omega)
        rw [hbad c1]
        simp only [go_sem, c1']
        try rfl
    · obtain rfl : i = x.length := by omega
      rw [List.take_length] at hinv
      have e : decide (FP x) = decide (x.length ≤ 12) := decide_eq_decide.2 ⟨fun h => h.2, fun h => ⟨hinv, h⟩⟩
      rw [e]
      simp only [go_sem]
      rw [decide_eq_decide]; omega

def FLs (a : List LL) : Prop := (∀ l ∈ a, FL l) ∧ a.length ≤ 10
instance (a : List LL) : Decidable (FLs a) := by unfold FLs; exact inferInstance
set_option maxRecDepth 100000 in
theorem fewLins21 (a : List LL) (hl : a.length ≤ maxLen) (ha : ∀ l ∈ a, LLok l) : PCall Tryz.prog 34 [.one (eL cL a)] (tB (decide (FLs a))) := by
  refine pcall_of_wpA mixed Tryz.call34 Tryz.func34 rfl Tryz.ntmps34 Tryz.results34 (by simp) (by decide) ?_
  have hl1 : a.length ≤ 9223372036854775807 := Nat.le_trans hl (by decide)
  simp only [go_sem]
  refine loop_inv (fun i : Nat => stL 19 [(0, .one (.t (eL cL a))), (3, litI .i64 i)] []) (fun i => i ≤ a.length ∧ ∀ l ∈ a.take i, FL l) (fun i => a.length - i) 0 ?_ ⟨Nat.zero_le _, by rw [List.take_zero]; intro m hm; cases hm⟩ ?_
  · (refine gstep_list rfl ?_ ?_ ?_ ?_ <;> (try simp only [go_sem, tail_one]) <;> (try simp))
  · rintro i ⟨hi, hinv⟩
    simp only [go_sem]
    refine CondR_if (fun hlt => ?_) (fun hge => ?_)
    · have hlt' : i < a.length := by omega
      have hel : elemD cL a i = cL a[i] := elemD_lt hlt'
      have h1 := fewLin21 a[i] (ha _ (List.getElem_mem hlt'))
      have hbad : ¬ FL a[i] → decide (FLs a) = false := fun h => decide_eq_false fun hf => h (hf.1 _ (List.getElem_mem hlt'))
      have hnx : FL a[i] → ∀ l ∈ a.take (i + 1), FL l := fun h m hm => by
        rw [take_snoc hlt'] at hm
        rcases List.mem_append.1 hm with hm | hm
        · exact hinv m hm
        · obtain rfl := List.mem_singleton.1 hm; exact h
      generalize a[i] = l at *
      simp only [go_sem, hel, hlt]
      (repeat (refine And.intro (by omega) ?_))
      by_cases c : FL l
      · have h1 := tB_of h1 c
        ((repeat (refine regA_by 0 rfl ?_; simp only [go_sem])); refine call_pure (h1) rfl ?_; simp only [go_sem]; (repeat (refine regA_by 0 rfl ?_; simp only [go_sem])))
        refine ⟨i + 1, ⟨hlt', hnx c⟩, (by show a.length - (i + 1) < a.length - i; omega), ?_⟩
        (refine gstep_list rfl ?_ ?_ ?_ ?_ <;> (try simp only [go_sem, tail_one, wrap_i64 (n := (i : Int) + 1) (by omega) (by omega)]) <;> (try simp))
      · have h1 := tB_not h1 c
        rw [hbad c]
        ((repeat (refine regA_by 0 rfl ?_; simp only [go_sem])); refine call_pure (h1) rfl ?_; simp only [go_sem]; (repeat (refine regA_by 0 rfl ?_; simp only [go_sem])))
    · obtain rfl : i = a.length := by omega
      rw [List.take_length] at hinv
      have e : decide (FLs a) = decide (a.length ≤ 10) := decide_eq_decide.2 ⟨fun h => h.2, fun h => ⟨hinv, h⟩⟩
      rw [e]
      simp only [go_sem]
      rw [decide_eq_decide]; omega

def FR (x : List QQ) : Prop := (∀ q ∈ x, q.2.1.length ≤ 3 ∧ q.2.2.length ≤ 3) ∧ x.length ≤ 12
instance (x : List QQ) : Decidable (FR x) := by unfold FR; exact inferInstance
set_option maxRecDepth 100000 in
theorem fewRats21 (x : List QQ) (hl : x.length ≤ maxLen) : PCall Tryz.prog 35 [tLQ x] (tB (decide (FR x))) := by
  refine pcall_of_wpA mixed Tryz.call35 Tryz.func35 rfl Tryz.ntmps35 Tryz.results35 (by simp) (by decide) ?_
  have hl1 : x.length ≤ 9223372036854775807 := Nat.le_trans hl (by decide)
  simp only [go_sem]
  refine loop_inv (fun i : Nat => stL 30 [(0, aLQ x), (3, litI .i64 i)] []) (fun i => i ≤ x.length ∧ ∀ q ∈ x.take i, q.2.1.length ≤ 3 ∧ q.2.2.length ≤ 3) (fun i => x.length - i) 0 ?_ ⟨Nat.zero_le _, by rw [List.take_zero]; intro m hm; cases hm⟩ ?_
  · (refine gstep_list rfl ?_ ?_ ?_ ?_ <;> (try simp only [go_sem, tail_one]) <;> (try simp))
  · rintro i ⟨hi, hinv⟩
    simp only [go_sem]
    refine CondR_if (fun hlt => ?_) (fun hge => ?_)
    · have hlt' : i < x.length := by omega
      have hel : elemD cQ x i = cQ x[i] := elemD_lt hlt'
      have hbad : ¬ (x[i].2.1.length ≤ 3 ∧ x[i].2.2.length ≤ 3) → decide (FR x) = false := fun h => decide_eq_false fun hf => h (hf.1 _ (List.getElem_mem hlt'))
      have hnx : (x[i].2.1.length ≤ 3 ∧ x[i].2.2.length ≤ 3) → ∀ q ∈ x.take (i + 1), q.2.1.length ≤ 3 ∧ q.2.2.length ≤ 3 := fun h m hm => by
        rw [take_snoc hlt'] at hm
        rcases List.mem_append.1 hm with hm | hm
        · exact hinv m hm
        · obtain rfl := List.mem_singleton.1 hm; exact h
      generalize x[i] = q at *
      by_cases c1 : q.2.1.length ≤ 3
      · have c1' : ((3 : Int) < (q.2.1.length : Int)) = False := eq_false (by omega)
        by_cases c2 : q.2.2.length ≤ 3
        · have c2' : ((3 : Int) < (q.2.2.length : Int)) = False := eq_false (by omega)
          simp only [go_sem, c1', c2', hel, hlt]
          (repeat (refine And.intro (by omega) ?_))
          refine ⟨i + 1, ⟨hlt', hnx ⟨c1, c2⟩⟩, (by show x.length - (i + 1) < x.length - i; omega), ?_⟩
          (refine gstep_list rfl ?_ ?_ ?_ ?_ <;> (try simp only [go_sem, tail_one, wrap_i64 (n := (i : Int) + 1) (by omega) (by omega)]) <;> (try simp))
        · have c2' : ((3 : Int) < (q.2.2.length : Int)) = True := eq_true (by omega)
          rw [hbad fun h => c2 h.2]
          simp only [go_sem, c1', c2', hel, hlt]
          try omega
      · have c1' : ((3 : Int) < (q.2.1.length : Int)) = True := eq_true (by omega)
        rw [hbad fun h => c1 h.1]
        simp only [go_sem, c1', hel, hlt]
        try omega
    · obtain rfl : i = x.length := by omega
      rw [List.take_length] at hinv
      have e : decide (FR x) = decide (x.length ≤ 12) := decide_eq_decide.2 ⟨fun h => h.2, fun h => ⟨hinv, h⟩⟩
      rw [e]
      simp only [go_sem]
      rw [decide_eq_decide]; omega
end Go.Proofs.YtfgejnedaijjiaaGreat
namespace Go.Proofs.YtfgejnedaijjiaaGreat
open Go Go.Abs
set_option maxHeartbeats 8000000
set_option maxRecDepth 100000 in
theorem fewLin19 (l : LL) (hl : LLok l) : PCall Tryz.prog 51 [gL l] (tB (decide (FL l))) := by
  refine pcall_of_wpA mixed Tryz.call51 Tryz.func51 rfl Tryz.ntmps51 Tryz.results51 (by simp) (by decide) ?_
  have hl1 := hl.1
  simp only [go_sem]
  refine loop_inv (fun i : Nat => stL 40 [(1, .one (.ptr 1 0)), (3, litI .i64 i)] [(1, (cL l).map .t)]) (fun i => i ≤ l.1.length ∧ ∀ m ∈ l.1.take i, m.2.2.length ≤ 4 ∧ m.1 ≤ 100) (fun i => l.1.length - i) 0 ?_ ⟨Nat.zero_le _, by rw [List.take_zero]; intro m hm; cases hm⟩ ?_
  · (refine gstep_list rfl ?_ ?_ ?_ ?_ <;> (try simp only [go_sem, tail_one]) <;> (try simp))
  · rintro i ⟨hi, hinv⟩
    simp only [go_sem]
    refine CondR_if (fun hlt => ?_) (fun hge => ?_)
    · have hlt' : i < l.1.length := by omega
      have hel : elemD cM l.1 i = cM l.1[i] := elemD_lt hlt'
      have hbad : ¬ (l.1[i].2.2.length ≤ 4 ∧ l.1[i].1 ≤ 100) → decide (FL l) = false := fun h => decide_eq_false fun hf => h (hf.1 _ (List.getElem_mem hlt'))
      have hnx : (l.1[i].2.2.length ≤ 4 ∧ l.1[i].1 ≤ 100) → ∀ m ∈ l.1.take (i + 1), m.2.2.length ≤ 4 ∧ m.1 ≤ 100 := fun h m hm => by
        rw [take_snoc hlt'] at hm
        rcases List.mem_append.1 hm with hm | hm
        · exact hinv m hm
        · obtain rfl := List.mem_singleton.1 hm; exact h
      generalize l.1[i] = m at *
      simp only [go_sem, hel, hlt]
      (repeat (refine And.intro (by omega) ?_))
      by_cases c1 : m.2.2.length ≤ 4
      · have c1' : ((4 : Int) < (m.2.2.length : Int)) = False := eq_false (by omega)
        by_cases c2 : m.1 ≤ 100
        · have c2' : ((100 : Int) < m.1) = False := eq_false (by omega)
          simp only [go_sem, c1', c2', hel, hlt]
          (repeat (refine And.intro (by omega) ?_))
          refine ⟨i + 1, ⟨hlt', hnx ⟨c1, c2⟩⟩, (by show l.1.length - (i + 1) < l.1.length - i; omega), ?_⟩
          (refine gstep_list rfl ?_ ?_ ?_ ?_ <;> (try simp only [go_sem, tail_one, wrap_i64 (n := (i : Int) + 1) (by omega) (by omega)]) <;> (try simp))
        · have c2' : ((100 : Int) < m.1) = True := eq_true (by omega)
          rw [hbad fun h => c2 h.2]
          simp only [go_sem, c1', c2', hel, hlt]
          try omega
      · have c1' : ((4 : Int) < (m.2.2.length : Int)) = True := eq_true (by omega)
        rw [hbad fun h => c1 h.1]
        simp only [go_sem, c1', hel, hlt]
        try omega
    · obtain rfl : i = l.1.length := by omega
      rw [List.take_length] at hinv
      have e : decide (FL l) = decide (l.1.length ≤ 8 ∧ l.2.2.length ≤ 4) := decide_eq_decide.2 ⟨fun h => h.2, fun h => ⟨hinv, h⟩⟩
      rw [e]
      simp only [go_sem]
      by_cases c1 : l.1.length ≤ 8
      · have c1' : ((l.1.length : Int) ≤ 8) = True := eq_true (by omega)
        simp only [go_sem, c1']
        rw [decide_eq_decide]; omega
      · have c1' : ((l.1.length : Int) ≤ 8) = False := eq_false (by omega)
        simp only [go_sem, c1']
        symm; rw [decide_eq_false_iff_not]; omega
set_option maxRecDepth 100000 in
theorem fewLins19 (a : List LL) (hl : a.length ≤ maxLen) (ha : ∀ l ∈ a, LLok l) : PCall Tryz.prog 13 [.one (eL cL a)] (tB (decide (FLs a))) := by
  refine pcall_of_wpA mixed Tryz.call13 Tryz.func13 rfl Tryz.ntmps13 Tryz.results13 (by simp) (by decide) ?_
  have hl1 : a.length ≤ 9223372036854775807 := Nat.le_trans hl (by decide)
  simp only [go_sem]
  refine loop_inv (fun i : Nat => stL 19 [(0, .one (.t (eL cL a))), (3, litI .i64 i)] []) (fun i => i ≤ a.length ∧ ∀ l ∈ a.take i, FL l) (fun i => a.length - i) 0 ?_ ⟨Nat.zero_le _, by rw [List.take_zero]; intro m hm; cases hm⟩ ?_
  · (refine gstep_list rfl ?_ ?_ ?_ ?_ <;> (try simp only [go_sem, tail_one]) <;> (try simp))
  · rintro i ⟨hi, hinv⟩
    simp only [go_sem]
    refine CondR_if (fun hlt => ?_) (fun hge => ?_)
    · have hlt' : i < a.length := by omega
      have hel : elemD cL a i = cL a[i] := elemD_lt hlt'
      have h1 := fewLin19 a[i] (ha _ (List.getElem_mem hlt'))
      have hbad : ¬ FL a[i] → decide (FLs a) = false := fun h => decide_eq_false fun hf => h (hf.1 _ (List.getElem_mem hlt'))
      have hnx : FL a[i] → ∀ l ∈ a.take (i + 1), FL l := fun h m hm => by
        rw [take_snoc hlt'] at hm
        rcases List.mem_append.1 hm with hm | hm
        · exact hinv m hm
        · obtain rfl := List.mem_singleton.1 hm; exact h
      generalize a[i] = l at *
      simp only [go_sem, hel, hlt]
      (repeat (refine And.intro (by omega) ?_))
      by_cases c : FL l
      · have h1 := tB_of h1 c
        ((repeat (refine regA_by 0 rfl ?_; simp only [go_sem])); refine call_pure (h1) rfl ?_; simp only [go_sem]; (repeat (refine regA_by 0 rfl ?_; simp only [go_sem])))
        refine ⟨i + 1, ⟨hlt', hnx c⟩, (by show a.length - (i + 1) < a.length - i; omega), ?_⟩
        (refine gstep_list rfl ?_ ?_ ?_ ?_ <;> (try simp only [go_sem, tail_one, wrap_i64 (n := (i : Int) + 1) (by omega) (by omega)]) <;> (try simp))
      · have h1 := tB_not h1 c
        rw [hbad c]
        ((repeat (refine regA_by 0 rfl ?_; simp only [go_sem])); refine call_pure (h1) rfl ?_; simp only [go_sem]; (repeat (refine regA_by 0 rfl ?_; simp only [go_sem])))
    · obtain rfl : i = a.length := by omega
      rw [List.take_length] at hinv
      have e : decide (FLs a) = decide (a.length ≤ 10) := decide_eq_decide.2 ⟨fun h => h.2, fun h => ⟨hinv, h⟩⟩
      rw [e]
      simp only [go_sem]
      rw [decide_eq_decide]; omega

set_option maxRecDepth 100000 in
theorem fewRats19 (x : List QQ) (hl : x.length ≤ maxLen) : PCall Tryz.prog 19 [tLQ x] (tB (decide (FR x))) := by
  refine pcall_of_wpA mixed Tryz.call19 Tryz.func19 rfl Tryz.ntmps19 Tryz.results19 (by simp) (by decide) ?_
  have hl1 : x.length ≤ 9223372036854775807 := Nat.le_trans hl (by decide)
  simp only [go_sem]
  refine loop_inv (fun i : Nat => stL 30 [(0, aLQ x), (3, litI .i64 i)] []) (fun i => i ≤ x.length ∧ ∀ q ∈ x.take i, q.2.1.length ≤ 3 ∧ q.2.2.length ≤ 3) (fun i => x.length - i) 0 ?_ ⟨Nat.zero_le _, by rw [List.take_zero]; intro m hm; cases hm⟩ ?_
  · (refine gstep_list rfl ?_ ?_ ?_ ?_ <;> (try simp only [go_sem, tail_one]) <;> (try simp))
  · rintro i ⟨hi, hinv⟩
    simp only [go_sem]
    refine CondR_if (fun hlt => ?_) (fun hge => ?_)
    · have hlt' : i < x.length := by omega
      have hel : elemD cQ x i = cQ x[i] := elemD_lt hlt'
      have hbad : ¬ (x[i].2.1.length ≤ 3 ∧ x[i].2.2.length ≤ 3) → decide (FR x) = false := fun h => decide_eq_false fun hf => h (hf.1 _ (List.getElem_mem hlt'))
      have hnx : (x[i].2.1.length ≤ 3 ∧ x[i].2.2.length ≤ 3) → ∀ q ∈ x.take (i + 1), q.2.1.length ≤ 3 ∧ q.2.2.length ≤ 3 := fun h m hm => by
        rw [take_snoc hlt'] at hm
        rcases List.mem_append.1 hm with hm | hm
        · exact hinv m hm
        · obtain rfl := List.mem_singleton.1 hm; exact h
      generalize x[i] = q at *
      by_cases c1 : q.2.1.length ≤ 3
      · have c1' : ((3 : Int) < (q.2.1.length : Int)) = False := eq_false (by omega)
        by_cases c2 : q.2.2.length ≤ 3
        · have c2' : ((3 : Int) < (q.2.2.length : Int)) = False := eq_false (by omega)
          simp only [go_sem, c1', c2', hel, hlt]
          (repeat (refine And.intro (by omega) ?_))
          refine ⟨i + 1, ⟨hlt', hnx ⟨c1, c2⟩⟩, (by show x.length - (i + 1) < x.length - i; omega), ?_⟩
          (refine gstep_list rfl ?_ ?_ ?_ ?_ <;> (try simp only [go_sem, tail_one, wrap_i64 (n := (i : Int) + 1) (by omega) (by omega)]) <;> (try simp))
        · have c2' : ((3 : Int) < (q.2.2.length : Int)) = True := eq_true (by omega)
          rw [hbad fun h => c2 h.2]
          simp only [go_sem, c1', c2', hel, hlt]
          try omega
      · have c1' : ((3 : Int) < (q.2.1.length : Int)) = True := eq_true (by omega)
        rw [hbad fun h => c1 h.1]
        simp only [go_sem, c1', hel, hlt]
        try omega
    · obtain rfl : i = x.length := by omega
      rw [List.take_length] at hinv
      have e : decide (FR x) = decide (x.length ≤ 12) := decide_eq_decide.2 ⟨fun h => h.2, fun h => ⟨hinv, h⟩⟩
      rw [e]
      simp only [go_sem]
      rw [decide_eq_decide]; omega
end Go.Proofs.YtfgejnedaijjiaaGreat
namespace Go.Proofs.YtfgejnedaijjiaaGreat
open Go Go.Abs
set_option maxHeartbeats 8000000
set_option maxRecDepth 100000 in
theorem f6_EqualAll (a b : List Fm) {N L : Nat} (hN : N ≤ 1000000) (hL : L ≤ 900000) (hla : a.length < 1000000000) (hlb : b.length < 1000000000) (ha : ∀ f ∈ a, Bd N L f) (hb : ∀ f ∈ b, Bd N L f) : PCall Tryz.prog 43 [.one (eL cF a), .one (eL cF b)] (tB (decide (a = b))) := by
  refine pcall_of_wpA mixed Tryz.call43 Tryz.func43 rfl Tryz.ntmps43 Tryz.results43 (by simp) (by decide) ?_
  by_cases hl : a.length = b.length
  · have hl' : ((a.length : Int) = (b.length : Int)) = True := eq_true (by omega)
    simp only [go_sem, hl']
    refine loop_inv (fun i : Nat => stL 27 [(0, .one (.t (eL cF a))), (1, .one (.t (eL cF b))), (5, litI .i64 i)] [])
      (fun i => i ≤ a.length ∧ a.take i = b.take i) (fun i => a.length - i) 0 ?_ ⟨Nat.zero_le _, rfl⟩ ?_
    · (refine gstep_list rfl ?_ ?_ ?_ ?_ <;> (try simp only [go_sem, tail_one]) <;> (try simp))
    · rintro i ⟨hi, hinv⟩
      simp only [go_sem]
      refine CondR_if (fun hlt => ?_) (fun hge => ?_)
      · have hlt' : i < a.length := by omega
        have hlt2 : i < b.length := by omega
        have hel : elemD cF a i = cF a[i] := elemD_lt hlt'
        have hel2 : elemD cF b i = cF b[i] := elemD_lt hlt2
        have hltb : ((i : Int) < (b.length : Int)) = True := eq_true (by omega)
        have h := f6_Equal a[i] b[i] hN hL (ha _ (List.getElem_mem hlt')) (hb _ (List.getElem_mem hlt2))
        have hne : ¬ a[i] = b[i] → decide (a = b) = false := fun h => decide_eq_false fun e => h (by subst e; rfl)
        have hnx : a[i] = b[i] → a.take (i + 1) = b.take (i + 1) := fun h => by rw [take_snoc hlt', take_snoc hlt2, hinv, h]
        generalize a[i] = u at *
        generalize b[i] = v at *
        simp only [go_sem, hel, hel2, hlt, hltb]
        (repeat (refine And.intro (by omega) ?_))
        refine regA_by 0 rfl ?_
        simp only [go_sem, hel, hel2, hlt, hltb]
        (repeat (refine And.intro (by omega) ?_))
        by_cases c : u = v
        · have h := tB_of h c
          refine call_pure h rfl ?_
          simp only [go_sem]
          refine ⟨i + 1, ⟨hlt', hnx c⟩, (by show a.length - (i + 1) < a.length - i; omega), ?_⟩
          (refine gstep_list rfl ?_ ?_ ?_ ?_ <;> (try simp only [go_sem, tail_one, wrap_i64 (n := (i : Int) + 1) (by omega) (by omega)]) <;> (try simp))
        · have h := tB_not h c
          rw [hne c]
          refine call_pure h rfl ?_
          simp only [go_sem]
          try rfl
      · obtain rfl : i = a.length := by omega
        rw [List.take_length, hl, List.take_length] at hinv
        rw [decide_eq_true hinv]
        simp only [go_sem]
        try rfl
  · have hl' : ((a.length : Int) = (b.length : Int)) = False := eq_false (by omega)
    rw [decide_eq_false (show ¬ a = b from fun e => hl (by rw [e]))]
    simp only [go_sem, hl']
    try rfl
set_option maxRecDepth 100000 in
theorem c_Round1 (q : QQ) {K : Nat} (hK : K ≤ 1800) (hK1 : 1 ≤ K) (h1 : q.2.1.length ≤ K) (h2 : q.2.2.length ≤ K) : PCall Tryz.prog 81 [.agg (cQ q)] (tB (decide (qQ q < 0))) := by
  refine pcall_of_wpA mixed Tryz.call81 Tryz.func81 rfl Tryz.ntmps81 Tryz.results81 (by simp) (by decide) ?_
  have o1 := q_Held q.1 q.2.1 q.2.2 (by omega) (by omega)
  have lq := lQ_qv q.1 q.2.1 q.2.2
  unfold qQ
  generalize qv q.1 q.2.1 q.2.2 = r at *
  have o2 := q_Rat_e r
  have o3 := w_Sign_e r.num (by have := lQ_num r; omega)
  have e : decide (r < 0) = decide (r.num.sign < 0) := decide_eq_decide.2 (by
    have h0 : (0 ≤ r) ↔ 0 ≤ r.num := Rat.num_nonneg.symm
    have h1 : r < 0 ↔ ¬ 0 ≤ r := Rat.not_le.symm
    rw [h1, h0, Int.sign_neg_iff]; omega)
  rw [e]
  simp only [go_sem]
  ((repeat (refine regA_by 0 rfl ?_; simp only [go_sem])); refine call_pure (o1) rfl ?_; simp only [go_sem]; (repeat (refine regA_by 0 rfl ?_; simp only [go_sem])); refine call_pure (o2) rfl ?_; simp only [go_sem]; (repeat (refine regA_by 0 rfl ?_; simp only [go_sem])); refine call_pure (o3) rfl ?_; simp only [go_sem]; (repeat (refine regA_by 0 rfl ?_; simp only [go_sem])))
set_option maxRecDepth 100000 in
theorem c_Round2 (q : QQ) {K : Nat} (hK : K ≤ 1800) (hK1 : 1 ≤ K) (h1 : q.2.1.length ≤ K) (h2 : q.2.2.length ≤ K) : PCall Tryz.prog 84 [.agg (cQ q)] (tB (decide (¬ (qQ q).den = 1))) := by
  refine pcall_of_wpA mixed Tryz.call84 Tryz.func84 rfl Tryz.ntmps84 Tryz.results84 (by simp) (by decide) ?_
  have o1 := q_Whole q.1 q.2.1 q.2.2 (by omega) (by omega)
  unfold qQ
  generalize qv q.1 q.2.1 q.2.2 = r at *
  simp only [go_sem]
  ((repeat (refine regA_by 0 rfl ?_; simp only [go_sem])); refine call_pure (o1) rfl ?_; simp only [go_sem]; (repeat (refine regA_by 0 rfl ?_; simp only [go_sem])))
  try simp
set_option maxRecDepth 100000 in
theorem c_IndexFunc (x : List QQ) (p : QQ → Bool) (F : FuncId) (hx : x.length < 1000000000) (hp : ∀ q ∈ x, PCall Tryz.prog F [.agg (cQ q)] (tB (p q))) (n : Int) (hn : (∃ k : Nat, ∃ hk : k < x.length, n = k ∧ p x[k] = true ∧ ∀ q ∈ x.take k, p q = false) ∨ (n = -1 ∧ ∀ q ∈ x, p q = false)) :
    ACall Tryz.prog 125 [.one (.t (eL cQ x)), .one (.fn F [])] (tI .i64 n) := by
  refine acall_of_wpA mixed Tryz.call125 Tryz.func125 rfl Tryz.ntmps125 Tryz.results125 (by simp) (by decide) ?_
  simp only [go_sem]
  refine loop_inv (fun i : Nat => stL 19 [(0, .one (.t (eL cQ x))), (1, .one (.fn F [])), (6, .one (.t (eL cQ x))), (7, litI .i64 x.length), (8, litI .i64 i)] [])
      (fun i => i ≤ x.length ∧ ∀ q ∈ x.take i, p q = false) (fun i => x.length - i) 0 ?_ ⟨Nat.zero_le _, by rw [List.take_zero]; intro q hq; cases hq⟩ ?_
  · (refine gstep_list rfl ?_ ?_ ?_ ?_ <;> (try simp only [go_sem, tail_one]) <;> (try simp))
  · rintro i ⟨hi, hinv⟩
    simp only [go_sem]
    refine CondR_if (fun hlt => ?_) (fun hge => ?_)
    · have hlt' : i < x.length := by omega
      have hel : elemD cQ x i = cQ x[i] := elemD_lt hlt'
      have h := hp _ (List.getElem_mem hlt')
      have hnx : p x[i] = false → ∀ q ∈ x.take (i + 1), p q = false := fun h q hq => by
        rw [take_snoc hlt'] at hq
        rcases List.mem_append.1 hq with hq | hq
        · exact hinv q hq
        · obtain rfl := List.mem_singleton.1 hq; exact h
      have hyes : p x[i] = true → n = i := fun h => by
        rcases hn with ⟨k, hk, rfl, h1, h2⟩ | ⟨_, h2⟩
        · rcases Nat.lt_trichotomy k i with c | c | c
          · have : x[k] ∈ x.take i := List.mem_iff_getElem.2 ⟨k, by simp; omega, by simp⟩
            rw [hinv _ this] at h1; cases h1
          · rw [c]
          · have : x[i] ∈ x.take k := List.mem_iff_getElem.2 ⟨i, by simp; omega, by simp⟩
            rw [h2 _ this] at h; cases h
        · rw [h2 _ (List.getElem_mem hlt')] at h; cases h
      generalize x[i] = u at *
      simp only [go_sem, hel, hlt]
      (repeat (refine And.intro (by omega) ?_))
      cases c : p u with
      | true =>
        rw [c] at h
        rw [hyes c]
        refine call_pure h rfl ?_
        simp only [go_sem]
        try rfl
      | false =>
        rw [c] at h
        refine call_pure h rfl ?_
        simp only [go_sem]
        refine ⟨i + 1, ⟨hlt', hnx c⟩, (by show x.length - (i + 1) < x.length - i; omega), ?_⟩
        (refine gstep_list rfl ?_ ?_ ?_ ?_ <;> (try simp only [go_sem, tail_one, wrap_i64 (n := (i : Int) + 1) (by omega) (by omega)]) <;> (try simp))
    · obtain rfl : i = x.length := by omega
      rw [List.take_length] at hinv
      have e : n = -1 := by
        rcases hn with ⟨k, hk, _, h1, _⟩ | ⟨h, _⟩
        · rw [hinv _ (List.getElem_mem hk)] at h1; cases h1
        · exact h
      rw [e]
      simp only [go_sem]
      try rfl
end Go.Proofs.YtfgejnedaijjiaaGreat
namespace Go.Proofs.YtfgejnedaijjiaaGreat
open Go Go.Abs
set_option maxHeartbeats 8000000
theorem idx_any (p : QQ → Bool) : ∀ x : List QQ, x.any p = true → ∃ k : Nat, ∃ hk : k < x.length, p x[k] = true ∧ ∀ q ∈ x.take k, p q = false
  | [], h => by cases h
  | u :: x, h => by
    cases c : p u with
    | true => exact ⟨0, Nat.zero_lt_succ _, c, fun q hq => by cases hq⟩
    | false =>
      rw [List.any_cons, c, Bool.false_or] at h
      obtain ⟨k, hk, h1, h2⟩ := idx_any p x h
      exact ⟨k + 1, Nat.succ_lt_succ hk, h1, fun q hq => by
        rcases List.mem_cons.1 hq with rfl | hq
        · exact c
        · exact h2 q hq⟩
set_option maxRecDepth 100000 in
theorem c_ContainsFunc (x : List QQ) (p : QQ → Bool) (F : FuncId) (hx : x.length < 1000000000) (hp : ∀ q ∈ x, PCall Tryz.prog F [.agg (cQ q)] (tB (p q))) :
    ACall Tryz.prog 83 [.one (.t (eL cQ x)), .one (.fn F [])] (tB (x.any p)) := by
  refine acall_of_wpA mixed Tryz.call83 Tryz.func83 rfl Tryz.ntmps83 Tryz.results83 (by simp) (by decide) ?_
  cases c : x.any p with
  | true =>
    obtain ⟨k, hk, h1, h2⟩ := idx_any p x c
    have h := c_IndexFunc x p F hx hp k (.inl ⟨k, hk, rfl, h1, h2⟩)
    simp only [go_sem]
    refine call_a rfl h rfl ?_
    have hk0 : ((0 : Int) ≤ (k : Int)) = True := eq_true (by omega)
    simp only [go_sem, hk0]
    try rfl
  | false =>
    have h := c_IndexFunc x p F hx hp (-1) (.inr ⟨rfl, fun q hq => by
      cases e : p q with
      | false => rfl
      | true => rw [List.any_eq_true.2 ⟨q, hq, e⟩] at c; cases c⟩)
    simp only [go_sem]
    refine call_a rfl h rfl ?_
    simp only [go_sem]
    try rfl
end Go.Proofs.YtfgejnedaijjiaaGreat
namespace Go.Proofs.YtfgejnedaijjiaaGreat
open Go Go.Abs
set_option maxHeartbeats 8000000
/-- Whole parts of a sum. -/
def rdM (G : List Rat) : Nat → List Mn
  | 0 => []
  | j + 1 => if (G.getD j 0).num = 0 then rdM G j else rdM G j ++ [(j, (G.getD j 0).num)]
theorem rdM_len (G : List Rat) : ∀ j, (rdM G j).length ≤ j
  | 0 => Nat.le_refl _
  | j + 1 => by
    have := rdM_len G j
    unfold rdM; split
    · omega
    · rw [List.length_append]; simp; omega
def negX (a : List LL) (x : List QQ) : Prop := ∃ q ∈ x.take (min a.length x.length), qQ q < 0
instance (a : List LL) (x : List QQ) : Decidable (negX a x) := by unfold negX; exact inferInstance
def brkG (G : List Rat) : Prop := ∃ g ∈ G, ¬ g.den = 1
instance (G : List Rat) : Decidable (brkG G) := by unfold brkG; exact inferInstance
def rdT (a : List LL) (x : List QQ) (G : List Rat) (k : Rat) : TV :=
  if negX a x ∨ brkG G then .tup [eF ([], 0), tB false] else .tup [eF (rdM G G.length, -(-k).floor), tB true]
set_option maxRecDepth 100000 in
theorem r20_Round (a : List LL) (x : List QQ) (G : List Rat) (k : Rat) (hs : PCall Tryz.prog 30 [.one (eL cL a), tLQ x] (.tup [tLR G, eQ k])) (ha : a.length < 1000000) (hx : x.length < 1000000) (hxk : ∀ q ∈ x, q.2.1.length < 1900 ∧ q.2.2.length < 1900) (hG : G.length < 1000000) (hGk : ∀ g ∈ G, lQ g < 1900) (hk : lQ k < 1900) :
    PCall Tryz.prog 37 [.one (eL cL a), tLQ x] (rdT a x G k) := by
  refine pcall_of_wpA mixed Tryz.call37 Tryz.func37 rfl Tryz.ntmps37 Tryz.results37 (by simp) (by decide) ?_
  obtain ⟨m, hm⟩ : ∃ m, m = min a.length x.length := ⟨_, rfl⟩
  have ck := r_CeilRat (decide (k.num < 0)) (dig k.num.natAbs) (dig k.den) (by have := lQ_num k; unfold lN at this; omega) (by have := lQ_den k; rw [lN_nat'] at this; omega)
  rw [qv_eQ] at ck
  simp only [go_sem]
  refine loop_inv (fun i : Nat => stL 74 [(0, .one (.t (eL cL a))), (1, aLQ x), (4, .one (.ptr 4 0)), (6, litI .i64 i)]
      [(4, [.t (.seq (some true) []), .t (.lit (.bool false)), .t (.seq (some true) [])])]) (fun i => i ≤ m ∧ ∀ q ∈ x.take i, ¬ qQ q < 0) (fun i => m - i) 0 ?_ ⟨Nat.zero_le _, by rw [List.take_zero]; intro q hq; cases hq⟩ ?_
  · (refine gstep_list rfl ?_ ?_ ?_ ?_ <;> (try simp only [go_sem, tail_one]) <;> (try simp))
  · rintro i ⟨hi, hinv⟩
    by_cases hlt' : i < x.length
    · have hlt : ((i : Int) < (x.length : Int)) = True := eq_true (by omega)
      have hel : elemD cQ x i = cQ x[i] := elemD_lt hlt'
      by_cases c : i < a.length
      · have c' : ((i : Int) < (a.length : Int)) = True := eq_true (by omega)
        have hq := hxk _ (List.getElem_mem hlt')
        have sg := r_SignRat x[i].1 x[i].2.1 x[i].2.2 (by omega) (by omega)
        have hneg : qQ x[i] < 0 → negX a x := fun h => ⟨x[i], List.mem_iff_getElem.2 ⟨i, by simp; omega, by simp⟩, h⟩
        have hnx : ¬ qQ x[i] < 0 → ∀ q ∈ x.take (i + 1), ¬ qQ q < 0 := fun h q hq => by
          rw [take_snoc hlt'] at hq
          rcases List.mem_append.1 hq with hq | hq
          · exact hinv q hq
          · obtain rfl := List.mem_singleton.1 hq; exact h
        unfold qQ at hneg hnx
        generalize x[i] = w at *
        generalize qv w.1 w.2.1 w.2.2 = r at *
        have h0 : (0 ≤ r) ↔ 0 ≤ r.num := Rat.num_nonneg.symm
        have h1 : r < 0 ↔ ¬ 0 ≤ r := Rat.not_le.symm
        have hn0 : r < 0 ↔ r.num < 0 := by rw [h1, h0]; omega
        simp only [go_sem, hel, hlt, c']
        (repeat (refine And.intro (by omega) ?_))
        refine call_pure sg rfl ?_
        by_cases hr : r < 0
        · have hr' : (r.num.sign < 0) = True := eq_true (Int.sign_neg_iff.2 (hn0.1 hr))
          have e : rdT a x G k = .tup [eF ([], 0), tB false] := if_pos (.inl (hneg hr))
          rw [e, eF_zero]
          simp only [go_sem, hr']
          exact fz_tup2 (fz_agg3 .weak .t .weak) (.one .t)
        · have hr' : (r.num.sign < 0) = False := eq_false (fun h => hr (hn0.2 (Int.sign_neg_iff.1 h)))
          simp only [go_sem, hr']
          refine ⟨i + 1, ⟨by omega, hnx hr⟩, (by show m - (i + 1) < m - i; omega), ?_⟩
          (refine gstep_list rfl ?_ ?_ ?_ ?_ <;> (try simp only [go_sem, tail_one, wrap_i64 (n := (i : Int) + 1) (by omega) (by omega)]) <;> (try simp))
      · have c' : ((i : Int) < (a.length : Int)) = False := eq_false (by omega)
        have hnn : ¬ negX a x := fun ⟨q, hq, h⟩ => hinv q (by rw [← hm, show m = i by omega] at hq; exact hq) h
        simp only [go_sem, hlt, c']
        ((repeat (refine regA_by 0 rfl ?_; simp only [go_sem])); refine call_pure (hs) rfl ?_; simp only [go_sem]; (repeat (refine regA_by 0 rfl ?_; simp only [go_sem])); refine call_pure (ck) rfl ?_; simp only [go_sem]; (repeat (refine regA_by 0 rfl ?_; simp only [go_sem])))
        generalize hcl : -(-k).floor = cl at *
        refine loop_inv (fun j : Nat => stL 74 [(4, .one (.ptr 4 0)), (7, aLR G), (9, .one (.ptr 9 0)), (10, litI .i64 j)]
          (accE 1000 cMn (rdM G j) ++ [(4, [.t (.seq (some true) []), .t (.lit (.bool false)), .t (.seq (some true) [])]), (9, [accC 1000 3 (rdM G j), .t (.lit (.bool (decide (cl < 0)))), .t (eN (dig cl.natAbs))])])) (fun j => j ≤ G.length ∧ ∀ g ∈ G.take j, g.den = 1) (fun j => G.length - j) 0 ?_ ⟨Nat.zero_le _, by rw [List.take_zero]; intro q hq; cases hq⟩ ?_
        · rw [show rdM G 0 = [] from rfl]
          (refine gstep_list rfl ?_ ?_ ?_ ?_ <;> (try simp only [go_sem, tail_one]) <;> (try simp))
        · rintro j ⟨hj, hinj⟩
          simp only [go_sem]
          refine CondR_if (fun hjl => ?_) (fun hjge => ?_)
          · have hjl' : j < G.length := by omega
            have hej : elemD cR G j = cR G[j] := elemD_lt hjl'
            have lg := hGk _ (List.getElem_mem hjl')
            have hrl := rdM_len G j
            have hnx : rdM G (j + 1) = if G[j].num = 0 then rdM G j else rdM G j ++ [(j, G[j].num)] := by
              show (if (G.getD j 0).num = 0 then _ else _ ++ [(j, (G.getD j 0).num)]) = _
              rw [List.getD_eq_getElem?_getD, List.getElem?_eq_getElem hjl']; rfl
            have hbad : ¬ G[j].den = 1 → brkG G := fun h => ⟨_, List.getElem_mem hjl', h⟩
            have hok : G[j].den = 1 → ∀ g ∈ G.take (j + 1), g.den = 1 := fun h q hq => by
              rw [take_snoc hjl'] at hq
              rcases List.mem_append.1 hq with hq | hq
              · exact hinj q hq
              · obtain rfl := List.mem_singleton.1 hq; exact h
            generalize G[j] = g at *
            generalize rdM G j = acc at *
            have sn := (r_SameNat (dig g.den) [1] (by have := lQ_den g; rw [lN_nat'] at this; omega) (by decide)).fz (tvs' := [.one (eN (dig g.den)), .one (.seq (some false) [[.lit (.int .u32 1)]])]) (.cons (.one .t) (.cons (.one .weak) .nil))
            have sg := i_Sign_e g.num (by have := lQ_num g; omega)
            simp only [go_sem, hej, hjl]
            (repeat (refine And.intro (by omega) ?_))
            refine call_pure sn rfl ?_
            by_cases d : g.den = 1
            · have d' : (dig g.den = [1]) = True := eq_true (dig_one_iff.2 d)
              simp only [go_sem, d', hej, hjl]
              (repeat (refine And.intro (by omega) ?_))
              refine call_pure sg rfl ?_
              by_cases z : g.num = 0
              · have z' : (g.num.sign = 0) = True := eq_true (Int.sign_eq_zero_iff_zero.2 z)
                rw [if_pos z] at hnx
                simp only [go_sem, z']
                refine ⟨j + 1, ⟨hjl', hok d⟩, (by show G.length - (j + 1) < G.length - j; omega), ?_⟩
                (refine gstep_list rfl ?_ ?_ ?_ ?_ <;> (try simp only [go_sem, tail_one, hnx, wrap_i64 (n := (j : Int) + 1) (by omega) (by omega)]) <;> (try simp))
              · have z' : (g.num.sign = 0) = False := eq_false (fun h => z (Int.sign_eq_zero_iff_zero.1 h))
                rw [if_neg z] at hnx
                simp only [go_sem, z', hej, hjl]
                refine regA_by 0 rfl ?_
                simp only [go_sem, hej, hjl]
                (repeat (refine And.intro (by omega) ?_))
                refine opA_app_acc (sz := 3) (bytes := 40) (by simp only [go_sem, AppTy] <;> decide) cMn_len acc [(j, g.num)] (b := 1000) (by simp only [go_sem] <;> rfl) (by simp only [go_sem] <;> rfl) (by simp only [go_sem] <;> rfl) rfl (by simp) (by simp only [List.length_cons, List.length_nil] at *; omega) (by decide) ?_
                simp only [go_sem]
                refine ⟨j + 1, ⟨hjl', hok d⟩, (by show G.length - (j + 1) < G.length - j; omega), ?_⟩
                (refine gstep_list rfl ?_ ?_ ?_ ?_ <;> (try simp only [go_sem, tail_one, hnx, wrap_i64 (n := (j : Int) + 1) (by omega) (by omega)]) <;> (try simp))
            · have d' : (dig g.den = [1]) = False := eq_false (fun h => d (dig_one_iff.1 h))
              have e : rdT a x G k = .tup [eF ([], 0), tB false] := if_pos (.inr (hbad d))
              rw [e, eF_zero]
              simp only [go_sem, d']
              exact fz_tup2 (fz_agg3 .weak .t .weak) (.one .t)
          · obtain rfl : j = G.length := by omega
            rw [List.take_length] at hinj
            have e : rdT a x G k = .tup [eF (rdM G G.length, cl), tB true] := by
              rw [← hcl]; exact if_neg (fun h => h.elim hnn (fun ⟨g, hg, h⟩ => h (hinj g hg)))
            rw [e]
            simp only [go_sem]
            refine fz_tup2 (fz_agg3 (fz_acc cMn_len ?_) .t .t) (.one .t)
            cases h : rdM G G.length with
            | nil => exact .inl rfl
            | cons z zs => right; rfl
    · have hlt : ((i : Int) < (x.length : Int)) = False := eq_false (by omega)
      have hnn : ¬ negX a x := fun ⟨q, hq, h⟩ => hinv q (by rw [← hm, show m = i by omega] at hq; exact hq) h
      simp only [go_sem, hlt]
      ((repeat (refine regA_by 0 rfl ?_; simp only [go_sem])); refine call_pure (hs) rfl ?_; simp only [go_sem]; (repeat (refine regA_by 0 rfl ?_; simp only [go_sem])); refine call_pure (ck) rfl ?_; simp only [go_sem]; (repeat (refine regA_by 0 rfl ?_; simp only [go_sem])))
      generalize hcl : -(-k).floor = cl at *
      refine loop_inv (fun j : Nat => stL 74 [(4, .one (.ptr 4 0)), (7, aLR G), (9, .one (.ptr 9 0)), (10, litI .i64 j)]
        (accE 1000 cMn (rdM G j) ++ [(4, [.t (.seq (some true) []), .t (.lit (.bool false)), .t (.seq (some true) [])]), (9, [accC 1000 3 (rdM G j), .t (.lit (.bool (decide (cl < 0)))), .t (eN (dig cl.natAbs))])])) (fun j => j ≤ G.length ∧ ∀ g ∈ G.take j, g.den = 1) (fun j => G.length - j) 0 ?_ ⟨Nat.zero_le _, by rw [List.take_zero]; intro q hq; cases hq⟩ ?_
      · rw [show rdM G 0 = [] from rfl]
        (refine gstep_list rfl ?_ ?_ ?_ ?_ <;> (try simp only [go_sem, tail_one]) <;> (try simp))
      · rintro j ⟨hj, hinj⟩
        simp only [go_sem]
        refine CondR_if (fun hjl => ?_) (fun hjge => ?_)
        · have hjl' : j < G.length := by omega
          have hej : elemD cR G j = cR G[j] := elemD_lt hjl'
          have lg := hGk _ (List.getElem_mem hjl')
          have hrl := rdM_len G j
          have hnx : rdM G (j + 1) = if G[j].num = 0 then rdM G j else rdM G j ++ [(j, G[j].num)] := by
            show (if (G.getD j 0).num = 0 then _ else _ ++ [(j, (G.getD j 0).num)]) = _
            rw [List.getD_eq_getElem?_getD, List.getElem?_eq_getElem hjl']; rfl
          have hbad : ¬ G[j].den = 1 → brkG G := fun h => ⟨_, List.getElem_mem hjl', h⟩
          have hok : G[j].den = 1 → ∀ g ∈ G.take (j + 1), g.den = 1 := fun h q hq => by
            rw [take_snoc hjl'] at hq
            rcases List.mem_append.1 hq with hq | hq
            · exact hinj q hq
            · obtain rfl := List.mem_singleton.1 hq; exact h
          generalize G[j] = g at *
          generalize rdM G j = acc at *
          have sn := (r_SameNat (dig g.den) [1] (by have := lQ_den g; rw [lN_nat'] at this; omega) (by decide)).fz (tvs' := [.one (eN (dig g.den)), .one (.seq (some false) [[.lit (.int .u32 1)]])]) (.cons (.one .t) (.cons (.one .weak) .nil))
          have sg := i_Sign_e g.num (by have := lQ_num g; omega)
          simp only [go_sem, hej, hjl]
          (repeat (refine And.intro (by omega) ?_))
          refine call_pure sn rfl ?_
          by_cases d : g.den = 1
          · have d' : (dig g.den = [1]) = True := eq_true (dig_one_iff.2 d)
            simp only [go_sem, d', hej, hjl]
            (repeat (refine And.intro (by omega) ?_))
            refine call_pure sg rfl ?_
            by_cases z : g.num = 0
            · have z' : (g.num.sign = 0) = True := eq_true (Int.sign_eq_zero_iff_zero.2 z)
              rw [if_pos z] at hnx
              simp only [go_sem, z']
              refine ⟨j + 1, ⟨hjl', hok d⟩, (by show G.length - (j + 1) < G.length - j; omega), ?_⟩
              (refine gstep_list rfl ?_ ?_ ?_ ?_ <;> (try simp only [go_sem, tail_one, hnx, wrap_i64 (n := (j : Int) + 1) (by omega) (by omega)]) <;> (try simp))
            · have z' : (g.num.sign = 0) = False := eq_false (fun h => z (Int.sign_eq_zero_iff_zero.1 h))
              rw [if_neg z] at hnx
              simp only [go_sem, z', hej, hjl]
              refine regA_by 0 rfl ?_
              simp only [go_sem, hej, hjl]
              (repeat (refine And.intro (by omega) ?_))
              refine opA_app_acc (sz := 3) (bytes := 40) (by simp only [go_sem, AppTy] <;> decide) cMn_len acc [(j, g.num)] (b := 1000) (by simp only [go_sem] <;> rfl) (by simp only [go_sem] <;> rfl) (by simp only [go_sem] <;> rfl) rfl (by simp) (by simp only [List.length_cons, List.length_nil] at *; omega) (by decide) ?_
              simp only [go_sem]
              refine ⟨j + 1, ⟨hjl', hok d⟩, (by show G.length - (j + 1) < G.length - j; omega), ?_⟩
              (refine gstep_list rfl ?_ ?_ ?_ ?_ <;> (try simp only [go_sem, tail_one, hnx, wrap_i64 (n := (j : Int) + 1) (by omega) (by omega)]) <;> (try simp))
          · have d' : (dig g.den = [1]) = False := eq_false (fun h => d (dig_one_iff.1 h))
            have e : rdT a x G k = .tup [eF ([], 0), tB false] := if_pos (.inr (hbad d))
            rw [e, eF_zero]
            simp only [go_sem, d']
            exact fz_tup2 (fz_agg3 .weak .t .weak) (.one .t)
        · obtain rfl : j = G.length := by omega
          rw [List.take_length] at hinj
          have e : rdT a x G k = .tup [eF (rdM G G.length, cl), tB true] := by
            rw [← hcl]; exact if_neg (fun h => h.elim hnn (fun ⟨g, hg, h⟩ => h (hinj g hg)))
          rw [e]
          simp only [go_sem]
          refine fz_tup2 (fz_agg3 (fz_acc cMn_len ?_) .t .t) (.one .t)
          cases h : rdM G G.length with
          | nil => exact .inl rfl
          | cons z zs => right; rfl
end Go.Proofs.YtfgejnedaijjiaaGreat
