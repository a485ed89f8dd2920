/- At every input the call answers true and leaves its arguments as they were; no conditions. -/
import Derived.Test.YtfgejnedaijjiaaGreatCb
import Derived.Test.YtfgejnedaijjiaaGreatPc
set_option linter.unusedSimpArgs false
set_option linter.unusedVariables false
namespace Go.Proofs.YtfgejnedaijjiaaGreat
open Go Go.Abs
set_option maxHeartbeats 8000000
set_option maxRecDepth 100000 in
theorem fewLin21 (l : LL) (hl : LLok l) : PCall Tryz.prog 80 [gL l] (tB (decide (FL l))) := by
  refine pcall_of_wpA mixed Tryz.call80 Tryz.func80 rfl Tryz.ntmps80 Tryz.results80 (by simp) (by decide) ?_
  have hl1 := hl.1
  simp only [go_sem]
  refine loop_inv (fun i : Nat => stL 40 [(1, .one (.ptr 1 0)), (3, litI .i64 i)] [(1, (cL l).map .t)]) (fun i => i ≤ l.1.length ∧ ∀ m ∈ l.1.take i, m.2.2.length ≤ 4 ∧ m.1 ≤ 100) (fun i => l.1.length - i) 0 ?_ ⟨Nat.zero_le _, by rw [List.take_zero]; intro m hm; cases hm⟩ ?_
  · (refine gstep_list rfl ?_ ?_ ?_ ?_ <;> (try simp only [go_sem, tail_one]) <;> (try simp))
  · rintro i ⟨hi, hinv⟩
    simp only [go_sem]
    refine CondR_if (fun hlt => ?_) (fun hge => ?_)
    · have hlt' : i < l.1.length := by omega
      have hel : elemD cM l.1 i = cM l.1[i] := elemD_lt hlt'
      have hbad : ¬ (l.1[i].2.2.length ≤ 4 ∧ l.1[i].1 ≤ 100) → decide (FL l) = false := fun h => decide_eq_false fun hf => h (hf.1 _ (List.getElem_mem hlt'))
      have hnx : (l.1[i].2.2.length ≤ 4 ∧ l.1[i].1 ≤ 100) → ∀ m ∈ l.1.take (i + 1), m.2.2.length ≤ 4 ∧ m.1 ≤ 100 := fun h m hm => by
        rw [take_snoc hlt'] at hm
        rcases List.mem_append.1 hm with hm | hm
        · exact hinv m hm
        · obtain rfl := List.mem_singleton.1 hm; exact h
      generalize l.1[i] = m at *
      simp only [go_sem, hel, hlt]
      (repeat (refine And.intro (by omega) ?_))
      by_cases c1 : m.2.2.length ≤ 4
      · have c1' : ((4 : Int) < (m.2.2.length : Int)) = False := eq_false (by omega)
        by_cases c2 : m.1 ≤ 100
        · have c2' : ((100 : Int) < m.1) = False := eq_false (by omega)
          simp only [go_sem, c1', c2', hel, hlt]
          (repeat (refine And.intro (by omega) ?_))
          refine ⟨i + 1, ⟨hlt', hnx ⟨c1, c2⟩⟩, (by show l.1.length - (i + 1) < l.1.length - i; omega), ?_⟩
          (refine gstep_list rfl ?_ ?_ ?_ ?_ <;> (try simp only [go_sem, tail_one, wrap_i64 (n := (i : Int) + 1) (by omega) (by omega)]) <;> (try simp))
        · have c2' : ((100 : Int) < m.1) = True := eq_true (by omega)
          rw [hbad fun h => c2 h.2]
          simp only [go_sem, c1', c2', hel, hlt]
          try omega
      · have c1' : ((4 : Int) < (m.2.2.length : Int)) = True := eq_true (by omega)
        rw [hbad fun h => c1 h.1]
        simp only [go_sem, c1', hel, hlt]
        try omega
    · obtain rfl : i = l.1.length := by omega
      rw [List.take_length] at hinv
      have e : decide (FL l) = decide (l.1.length ≤ 8 ∧ l.2.2.length ≤ 4) := decide_eq_decide.2 ⟨fun h => h.2, fun h => ⟨hinv, h⟩⟩
      rw [e]
      simp only [go_sem]
      by_cases c1 : l.1.length ≤ 8
      · have c1' : ((l.1.length : Int) ≤ 8) = True := eq_true (by omega)
        simp only [go_sem, c1']
        rw [decide_eq_decide]; omega
      · have c1' : ((l.1.length : Int) ≤ 8) = False := eq_false (by omega)
        simp only [go_sem, c1']
        symm; rw [decide_eq_false_iff_not]; omega
set_option maxRecDepth 100000 in
theorem fewPoint21 (x : List (Bool × List Nat)) (hx : x.length ≤ maxLen) : PCall Tryz.prog 45 [tLI x] (tB (decide (FP x))) := by
  refine pcall_of_wpA mixed Tryz.call45 Tryz.func45 rfl Tryz.ntmps45 Tryz.results45 (by simp) (by decide) ?_
  have hx1 : x.length ≤ 9223372036854775807 := Nat.le_trans hx (by decide)
  simp only [go_sem]
  refine loop_inv (fun i : Nat => stL 20 [(0, aLI x), (3, litI .i64 i)] []) (fun i => i ≤ x.length ∧ ∀ m ∈ x.take i, m.2.length ≤ 4) (fun i => x.length - i) 0 ?_ ⟨Nat.zero_le _, by rw [List.take_zero]; intro m hm; cases hm⟩ ?_
  · (refine gstep_list rfl ?_ ?_ ?_ ?_ <;> (try simp only [go_sem, tail_one]) <;> (try simp))
  · rintro i ⟨hi, hinv⟩
    simp only [go_sem]
    refine CondR_if (fun hlt => ?_) (fun hge => ?_)
    · have hlt' : i < x.length := by omega
      have hel : elemD cI x i = cI x[i] := elemD_lt hlt'
      have hbad : ¬ (x[i].2.length ≤ 4) → decide (FP x) = false := fun h => decide_eq_false fun hf => h (hf.1 _ (List.getElem_mem hlt'))
      have hnx : x[i].2.length ≤ 4 → ∀ m ∈ x.take (i + 1), m.2.length ≤ 4 := fun h m hm => by
        rw [take_snoc hlt'] at hm
        rcases List.mem_append.1 hm with hm | hm
        · exact hinv m hm
        · obtain rfl := List.mem_singleton.1 hm; exact h
      generalize x[i] = m at *
      simp only [go_sem, hel, hlt, cI]
      (repeat (refine And.intro (by omega) ?_))
      by_cases c1 : m.2.length ≤ 4
      · have c1' : ((4 : Int) < (m.2.length : Int)) = False := eq_false (by omega)
        simp only [go_sem, c1']
        refine ⟨i + 1, ⟨hlt', hnx c1⟩, (by show x.length - (i + 1) < x.length - i; omega), ?_⟩
        (refine gstep_list rfl ?_ ?_ ?_ ?_ <;> (try simp only [go_sem, tail_one, wrap_i64 (n := (i : Int) + 1) (by omega) (by omega)]) <;> (try simp))
      · have c1' : ((4 : Int) < (m.2.length : Int)) = True := eq_true (by omega)
        rw [hbad c1]
        simp only [go_sem, c1']
        try rfl
    · obtain rfl : i = x.length := by omega
      rw [List.take_length] at hinv
      have e : decide (FP x) = decide (x.length ≤ 12) := decide_eq_decide.2 ⟨fun h => h.2, fun h => ⟨hinv, h⟩⟩
      rw [e]
      simp only [go_sem]
      rw [decide_eq_decide]; omega

def FLs (a : List LL) : Prop := (∀ l ∈ a, FL l) ∧ a.length ≤ 10
instance (a : List LL) : Decidable (FLs a) := by unfold FLs; exact inferInstance
set_option maxRecDepth 100000 in
theorem fewLins21 (a : List LL) (hl : a.length ≤ maxLen) (ha : ∀ l ∈ a, LLok l) : PCall Tryz.prog 34 [.one (eL cL a)] (tB (decide (FLs a))) := by
  refine pcall_of_wpA mixed Tryz.call34 Tryz.func34 rfl Tryz.ntmps34 Tryz.results34 (by simp) (by decide) ?_
  have hl1 : a.length ≤ 9223372036854775807 := Nat.le_trans hl (by decide)
  simp only [go_sem]
  refine loop_inv (fun i : Nat => stL 19 [(0, .one (.t (eL cL a))), (3, litI .i64 i)] []) (fun i => i ≤ a.length ∧ ∀ l ∈ a.take i, FL l) (fun i => a.length - i) 0 ?_ ⟨Nat.zero_le _, by rw [List.take_zero]; intro m hm; cases hm⟩ ?_
  · (refine gstep_list rfl ?_ ?_ ?_ ?_ <;> (try simp only [go_sem, tail_one]) <;> (try simp))
  · rintro i ⟨hi, hinv⟩
    simp only [go_sem]
    refine CondR_if (fun hlt => ?_) (fun hge => ?_)
    · have hlt' : i < a.length := by omega
      have hel : elemD cL a i = cL a[i] := elemD_lt hlt'
      have h1 := fewLin21 a[i] (ha _ (List.getElem_mem hlt'))
      have hbad : ¬ FL a[i] → decide (FLs a) = false := fun h => decide_eq_false fun hf => h (hf.1 _ (List.getElem_mem hlt'))
      have hnx : FL a[i] → ∀ l ∈ a.take (i + 1), FL l := fun h m hm => by
        rw [take_snoc hlt'] at hm
        rcases List.mem_append.1 hm with hm | hm
        · exact hinv m hm
        · obtain rfl := List.mem_singleton.1 hm; exact h
      generalize a[i] = l at *
      simp only [go_sem, hel, hlt]
      (repeat (refine And.intro (by omega) ?_))
      by_cases c : FL l
      · have h1 := tB_of h1 c
        ((repeat (refine regA_by 0 rfl ?_; simp only [go_sem])); refine call_pure (h1) rfl ?_; simp only [go_sem]; (repeat (refine regA_by 0 rfl ?_; simp only [go_sem])))
        refine ⟨i + 1, ⟨hlt', hnx c⟩, (by show a.length - (i + 1) < a.length - i; omega), ?_⟩
        (refine gstep_list rfl ?_ ?_ ?_ ?_ <;> (try simp only [go_sem, tail_one, wrap_i64 (n := (i : Int) + 1) (by omega) (by omega)]) <;> (try simp))
      · have h1 := tB_not h1 c
        rw [hbad c]
        ((repeat (refine regA_by 0 rfl ?_; simp only [go_sem])); refine call_pure (h1) rfl ?_; simp only [go_sem]; (repeat (refine regA_by 0 rfl ?_; simp only [go_sem])))
    · obtain rfl : i = a.length := by omega
      rw [List.take_length] at hinv
      have e : decide (FLs a) = decide (a.length ≤ 10) := decide_eq_decide.2 ⟨fun h => h.2, fun h => ⟨hinv, h⟩⟩
      rw [e]
      simp only [go_sem]
      rw [decide_eq_decide]; omega

def FR (x : List QQ) : Prop := (∀ q ∈ x, q.2.1.length ≤ 3 ∧ q.2.2.length ≤ 3) ∧ x.length ≤ 12
instance (x : List QQ) : Decidable (FR x) := by unfold FR; exact inferInstance
set_option maxRecDepth 100000 in
theorem fewRats21 (x : List QQ) (hl : x.length ≤ maxLen) : PCall Tryz.prog 35 [tLQ x] (tB (decide (FR x))) := by
  refine pcall_of_wpA mixed Tryz.call35 Tryz.func35 rfl Tryz.ntmps35 Tryz.results35 (by simp) (by decide) ?_
  have hl1 : x.length ≤ 9223372036854775807 := Nat.le_trans hl (by decide)
  simp only [go_sem]
  refine loop_inv (fun i : Nat => stL 30 [(0, aLQ x), (3, litI .i64 i)] []) (fun i => i ≤ x.length ∧ ∀ q ∈ x.take i, q.2.1.length ≤ 3 ∧ q.2.2.length ≤ 3) (fun i => x.length - i) 0 ?_ ⟨Nat.zero_le _, by rw [List.take_zero]; intro m hm; cases hm⟩ ?_
  · (refine gstep_list rfl ?_ ?_ ?_ ?_ <;> (try simp only [go_sem, tail_one]) <;> (try simp))
  · rintro i ⟨hi, hinv⟩
    simp only [go_sem]
    refine CondR_if (fun hlt => ?_) (fun hge => ?_)
    · have hlt' : i < x.length := by omega
      have hel : elemD cQ x i = cQ x[i] := elemD_lt hlt'
      have hbad : ¬ (x[i].2.1.length ≤ 3 ∧ x[i].2.2.length ≤ 3) → decide (FR x) = false := fun h => decide_eq_false fun hf => h (hf.1 _ (List.getElem_mem hlt'))
      have hnx : (x[i].2.1.length ≤ 3 ∧ x[i].2.2.length ≤ 3) → ∀ q ∈ x.take (i + 1), q.2.1.length ≤ 3 ∧ q.2.2.length ≤ 3 := fun h m hm => by
        rw [take_snoc hlt'] at hm
        rcases List.mem_append.1 hm with hm | hm
        · exact hinv m hm
        · obtain rfl := List.mem_singleton.1 hm; exact h
      generalize x[i] = q at *
      by_cases c1 : q.2.1.length ≤ 3
      · have c1' : ((3 : Int) < (q.2.1.length : Int)) = False := eq_false (by omega)
        by_cases c2 : q.2.2.length ≤ 3
        · have c2' : ((3 : Int) < (q.2.2.length : Int)) = False := eq_false (by omega)
          simp only [go_sem, c1', c2', hel, hlt]
          (repeat (refine And.intro (by omega) ?_))
          refine ⟨i + 1, ⟨hlt', hnx ⟨c1, c2⟩⟩, (by show x.length - (i + 1) < x.length - i; omega), ?_⟩
          (refine gstep_list rfl ?_ ?_ ?_ ?_ <;> (try simp only [go_sem, tail_one, wrap_i64 (n := (i : Int) + 1) (by omega) (by omega)]) <;> (try simp))
        · have c2' : ((3 : Int) < (q.2.2.length : Int)) = True := eq_true (by omega)
          rw [hbad fun h => c2 h.2]
          simp only [go_sem, c1', c2', hel, hlt]
          try omega
      · have c1' : ((3 : Int) < (q.2.1.length : Int)) = True := eq_true (by omega)
        rw [hbad fun h => c1 h.1]
        simp only [go_sem, c1', hel, hlt]
        try omega
    · obtain rfl : i = x.length := by omega
      rw [List.take_length] at hinv
      have e : decide (FR x) = decide (x.length ≤ 12) := decide_eq_decide.2 ⟨fun h => h.2, fun h => ⟨hinv, h⟩⟩
      rw [e]
      simp only [go_sem]
      rw [decide_eq_decide]; omega
end Go.Proofs.YtfgejnedaijjiaaGreat
namespace Go.Proofs.YtfgejnedaijjiaaGreat
open Go Go.Abs
set_option maxHeartbeats 8000000
set_option maxRecDepth 100000 in
theorem fewLin19 (l : LL) (hl : LLok l) : PCall Tryz.prog 51 [gL l] (tB (decide (FL l))) := by
  refine pcall_of_wpA mixed Tryz.call51 Tryz.func51 rfl Tryz.ntmps51 Tryz.results51 (by simp) (by decide) ?_
  have hl1 := hl.1
  simp only [go_sem]
  refine loop_inv (fun i : Nat => stL 40 [(1, .one (.ptr 1 0)), (3, litI .i64 i)] [(1, (cL l).map .t)]) (fun i => i ≤ l.1.length ∧ ∀ m ∈ l.1.take i, m.2.2.length ≤ 4 ∧ m.1 ≤ 100) (fun i => l.1.length - i) 0 ?_ ⟨Nat.zero_le _, by rw [List.take_zero]; intro m hm; cases hm⟩ ?_
  · (refine gstep_list rfl ?_ ?_ ?_ ?_ <;> (try simp only [go_sem, tail_one]) <;> (try simp))
  · rintro i ⟨hi, hinv⟩
    simp only [go_sem]
    refine CondR_if (fun hlt => ?_) (fun hge => ?_)
    · have hlt' : i < l.1.length := by omega
      have hel : elemD cM l.1 i = cM l.1[i] := elemD_lt hlt'
      have hbad : ¬ (l.1[i].2.2.length ≤ 4 ∧ l.1[i].1 ≤ 100) → decide (FL l) = false := fun h => decide_eq_false fun hf => h (hf.1 _ (List.getElem_mem hlt'))
      have hnx : (l.1[i].2.2.length ≤ 4 ∧ l.1[i].1 ≤ 100) → ∀ m ∈ l.1.take (i + 1), m.2.2.length ≤ 4 ∧ m.1 ≤ 100 := fun h m hm => by
        rw [take_snoc hlt'] at hm
        rcases List.mem_append.1 hm with hm | hm
        · exact hinv m hm
        · obtain rfl := List.mem_singleton.1 hm; exact h
      generalize l.1[i] = m at *
      simp only [go_sem, hel, hlt]
      (repeat (refine And.intro (by omega) ?_))
      by_cases c1 : m.2.2.length ≤ 4
      · have c1' : ((4 : Int) < (m.2.2.length : Int)) = False := eq_false (by omega)
        by_cases c2 : m.1 ≤ 100
        · have c2' : ((100 : Int) < m.1) = False := eq_false (by omega)
          simp only [go_sem, c1', c2', hel, hlt]
          (repeat (refine And.intro (by omega) ?_))
          refine ⟨i + 1, ⟨hlt', hnx ⟨c1, c2⟩⟩, (by show l.1.length - (i + 1) < l.1.length - i; omega), ?_⟩
          (refine gstep_list rfl ?_ ?_ ?_ ?_ <;> (try simp only [go_sem, tail_one, wrap_i64 (n := (i : Int) + 1) (by omega) (by omega)]) <;> (try simp))
        · have c2' : ((100 : Int) < m.1) = True := eq_true (by omega)
          rw [hbad fun h => c2 h.2]
          simp only [go_sem, c1', c2', hel, hlt]
          try omega
      · have c1' : ((4 : Int) < (m.2.2.length : Int)) = True := eq_true (by omega)
        rw [hbad fun h => c1 h.1]
        simp only [go_sem, c1', hel, hlt]
        try omega
    · obtain rfl : i = l.1.length := by omega
      rw [List.take_length] at hinv
      have e : decide (FL l) = decide (l.1.length ≤ 8 ∧ l.2.2.length ≤ 4) := decide_eq_decide.2 ⟨fun h => h.2, fun h => ⟨hinv, h⟩⟩
      rw [e]
      simp only [go_sem]
      by_cases c1 : l.1.length ≤ 8
      · have c1' : ((l.1.length : Int) ≤ 8) = True := eq_true (by omega)
        simp only [go_sem, c1']
        rw [decide_eq_decide]; omega
      · have c1' : ((l.1.length : Int) ≤ 8) = False := eq_false (by omega)
        simp only [go_sem, c1']
        symm; rw [decide_eq_false_iff_not]; omega
set_option maxRecDepth 100000 in
theorem fewLins19 (a : List LL) (hl : a.length ≤ maxLen) (ha : ∀ l ∈ a, LLok l) : PCall Tryz.prog 13 [.one (eL cL a)] (tB (decide (FLs a))) := by
  refine pcall_of_wpA mixed Tryz.call13 Tryz.func13 rfl Tryz.ntmps13 Tryz.results13 (by simp) (by decide) ?_
  have hl1 : a.length ≤ 9223372036854775807 := Nat.le_trans hl (by decide)
  simp only [go_sem]
  refine loop_inv (fun i : Nat => stL 19 [(0, .one (.t (eL cL a))), (3, litI .i64 i)] []) (fun i => i ≤ a.length ∧ ∀ l ∈ a.take i, FL l) (fun i => a.length - i) 0 ?_ ⟨Nat.zero_le _, by rw [List.take_zero]; intro m hm; cases hm⟩ ?_
  · (refine gstep_list rfl ?_ ?_ ?_ ?_ <;> (try simp only [go_sem, tail_one]) <;> (try simp))
  · rintro i ⟨hi, hinv⟩
    simp only [go_sem]
    refine CondR_if (fun hlt => ?_) (fun hge => ?_)
    · have hlt' : i < a.length := by omega
      have hel : elemD cL a i = cL a[i] := elemD_lt hlt'
      have h1 := fewLin19 a[i] (ha _ (List.getElem_mem hlt'))
      have hbad : ¬ FL a[i] → decide (FLs a) = false := fun h => decide_eq_false fun hf => h (hf.1 _ (List.getElem_mem hlt'))
      have hnx : FL a[i] → ∀ l ∈ a.take (i + 1), FL l := fun h m hm => by
        rw [take_snoc hlt'] at hm
        rcases List.mem_append.1 hm with hm | hm
        · exact hinv m hm
        · obtain rfl := List.mem_singleton.1 hm; exact h
      generalize a[i] = l at *
      simp only [go_sem, hel, hlt]
      (repeat (refine And.intro (by omega) ?_))
      by_cases c : FL l
      · have h1 := tB_of h1 c
        ((repeat (refine regA_by 0 rfl ?_; simp only [go_sem])); refine call_pure (h1) rfl ?_; simp only [go_sem]; (repeat (refine regA_by 0 rfl ?_; simp only [go_sem])))
        refine ⟨i + 1, ⟨hlt', hnx c⟩, (by show a.length - (i + 1) < a.length - i; omega), ?_⟩
        (refine gstep_list rfl ?_ ?_ ?_ ?_ <;> (try simp only [go_sem, tail_one, wrap_i64 (n := (i : Int) + 1) (by omega) (by omega)]) <;> (try simp))
      · have h1 := tB_not h1 c
        rw [hbad c]
        ((repeat (refine regA_by 0 rfl ?_; simp only [go_sem])); refine call_pure (h1) rfl ?_; simp only [go_sem]; (repeat (refine regA_by 0 rfl ?_; simp only [go_sem])))
    · obtain rfl : i = a.length := by omega
      rw [List.take_length] at hinv
      have e : decide (FLs a) = decide (a.length ≤ 10) := decide_eq_decide.2 ⟨fun h => h.2, fun h => ⟨hinv, h⟩⟩
      rw [e]
      simp only [go_sem]
      rw [decide_eq_decide]; omega

set_option maxRecDepth 100000 in
theorem fewRats19 (x : List QQ) (hl : x.length ≤ maxLen) : PCall Tryz.prog 19 [tLQ x] (tB (decide (FR x))) := by
  refine pcall_of_wpA mixed Tryz.call19 Tryz.func19 rfl Tryz.ntmps19 Tryz.results19 (by simp) (by decide) ?_
  have hl1 : x.length ≤ 9223372036854775807 := Nat.le_trans hl (by decide)
  simp only [go_sem]
  refine loop_inv (fun i : Nat => stL 30 [(0, aLQ x), (3, litI .i64 i)] []) (fun i => i ≤ x.length ∧ ∀ q ∈ x.take i, q.2.1.length ≤ 3 ∧ q.2.2.length ≤ 3) (fun i => x.length - i) 0 ?_ ⟨Nat.zero_le _, by rw [List.take_zero]; intro m hm; cases hm⟩ ?_
  · (refine gstep_list rfl ?_ ?_ ?_ ?_ <;> (try simp only [go_sem, tail_one]) <;> (try simp))
  · rintro i ⟨hi, hinv⟩
    simp only [go_sem]
    refine CondR_if (fun hlt => ?_) (fun hge => ?_)
    · have hlt' : i < x.length := by omega
      have hel : elemD cQ x i = cQ x[i] := elemD_lt hlt'
      have hbad : ¬ (x[i].2.1.length ≤ 3 ∧ x[i].2.2.length ≤ 3) → decide (FR x) = false := fun h => decide_eq_false fun hf => h (hf.1 _ (List.getElem_mem hlt'))
      have hnx : (x[i].2.1.length ≤ 3 ∧ x[i].2.2.length ≤ 3) → ∀ q ∈ x.take (i + 1), q.2.1.length ≤ 3 ∧ q.2.2.length ≤ 3 := fun h m hm => by
        rw [take_snoc hlt'] at hm
        rcases List.mem_append.1 hm with hm | hm
        · exact hinv m hm
        · obtain rfl := List.mem_singleton.1 hm; exact h
      generalize x[i] = q at *
      by_cases c1 : q.2.1.length ≤ 3
      · have c1' : ((3 : Int) < (q.2.1.length : Int)) = False := eq_false (by omega)
        by_cases c2 : q.2.2.length ≤ 3
        · have c2' : ((3 : Int) < (q.2.2.length : Int)) = False := eq_false (by omega)
          simp only [go_sem, c1', c2', hel, hlt]
          (repeat (refine And.intro (by omega) ?_))
          refine ⟨i + 1, ⟨hlt', hnx ⟨c1, c2⟩⟩, (by show x.length - (i + 1) < x.length - i; omega), ?_⟩
          (refine gstep_list rfl ?_ ?_ ?_ ?_ <;> (try simp only [go_sem, tail_one, wrap_i64 (n := (i : Int) + 1) (by omega) (by omega)]) <;> (try simp))
        · have c2' : ((3 : Int) < (q.2.2.length : Int)) = True := eq_true (by omega)
          rw [hbad fun h => c2 h.2]
          simp only [go_sem, c1', c2', hel, hlt]
          try omega
      · have c1' : ((3 : Int) < (q.2.1.length : Int)) = True := eq_true (by omega)
        rw [hbad fun h => c1 h.1]
        simp only [go_sem, c1', hel, hlt]
        try omega
    · obtain rfl : i = x.length := by omega
      rw [List.take_length] at hinv
      have e : decide (FR x) = decide (x.length ≤ 12) := decide_eq_decide.2 ⟨fun h => h.2, fun h => ⟨hinv, h⟩⟩
      rw [e]
      simp only [go_sem]
      rw [decide_eq_decide]; omega
end Go.Proofs.YtfgejnedaijjiaaGreat
