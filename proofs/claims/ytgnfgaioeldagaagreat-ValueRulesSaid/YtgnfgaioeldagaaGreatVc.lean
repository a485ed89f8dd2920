/- At every input the call answers true and leaves its arguments as they were; no conditions. -/
import Derived.Test.YtgnfgaioeldagaaGreatVb
set_option linter.unusedSimpArgs false
set_option linter.unusedVariables false
namespace Go.Proofs.YtgnfgaioeldagaaGreat
open Go Go.Abs
set_option maxHeartbeats 8000000
set_option maxRecDepth 100000 in
theorem r8_digit (c : UInt8) : PCall Tryz.prog 117 [tI .u8 (c.toNat : Int)] (tB (digitB c)) := by
  refine pcall_of_wpA mixed Tryz.call117 Tryz.func117 rfl Tryz.ntmps117 Tryz.results117 (by simp) (by decide) ?_
  have e : digitB c = (decide (48 ≤ (c.toNat : Int)) && decide ((c.toNat : Int) ≤ 57)) := by
    unfold digitB
    rw [Bool.eq_iff_iff]
    simp only [decide_eq_true_eq, Bool.and_eq_true]
    omega
  rw [e]
  generalize (c.toNat : Int) = n
  cases c : decide (48 ≤ n) with
  | true => simp only [go_sem, c]
  | false => simp only [go_sem, c]
def markN (i : Nat) : Nat := (marksS[i]!).toNat
theorem marks_map : marksL = (List.range 17).map markN := by decide
theorem marks_has (c : Nat) : marksL.contains c = true ↔ ∃ j, j < 17 ∧ markN j = c := by
  rw [marks_map, List.contains_iff_mem, List.mem_map]
  exact ⟨fun ⟨j, h1, h2⟩ => ⟨j, List.mem_range.1 h1, h2⟩, fun ⟨j, h1, h2⟩ => ⟨j, List.mem_range.2 h1, h2⟩⟩
set_option maxRecDepth 100000 in
theorem r8_sign (c : UInt8) : PCall Tryz.prog 116 [tI .u8 (c.toNat : Int)] (tB (signB c)) := by
  refine pcall_of_wpA mixed Tryz.call116 Tryz.func116 rfl Tryz.ntmps116 Tryz.results116 (by simp) (by decide) ?_
  have hd := r8_digit c
  have e : signB c = (digitB c || (decide (97 ≤ (c.toNat : Int)) && decide ((c.toNat : Int) ≤ 122)) || (decide (65 ≤ (c.toNat : Int)) && decide ((c.toNat : Int) ≤ 90)) || marksL.contains c.toNat) := by
    unfold signB
    have e1 : decide (97 ≤ c.toNat ∧ c.toNat ≤ 122) = (decide (97 ≤ (c.toNat : Int)) && decide ((c.toNat : Int) ≤ 122)) := by
      rw [Bool.eq_iff_iff]; simp only [decide_eq_true_eq, Bool.and_eq_true]; omega
    have e2 : decide (65 ≤ c.toNat ∧ c.toNat ≤ 90) = (decide (65 ≤ (c.toNat : Int)) && decide ((c.toNat : Int) ≤ 90)) := by
      rw [Bool.eq_iff_iff]; simp only [decide_eq_true_eq, Bool.and_eq_true]; omega
    rw [e1, e2]
  rw [e]
  clear e
  have hat : ∀ i : Nat, (marksS[i]!).toNat = markN i := fun i => rfl
  have hm := marks_has c.toNat
  generalize c.toNat = n at *
  generalize marksL.contains n = mk at *
  generalize digitB c = d at *
  simp only [go_sem]
  refine call_pure hd rfl ?_
  cases d with
  | true => simp only [go_sem]
  | false =>
    cases c1 : decide (97 ≤ (n : Int)) with
    | true =>
      cases c2 : decide ((n : Int) ≤ 122) with
      | true => simp only [go_sem, c1, c2]
      | false =>
        cases c3 : decide (65 ≤ (n : Int)) with
        | true =>
          cases c4 : decide ((n : Int) ≤ 90) with
          | true => simp only [go_sem, c1, c2, c3, c4]
          | false =>
            simp only [go_sem, c1, c2, c3, c4]
            refine loop_inv (fun i : Nat => stL 30 [(0, litI .u8 n), (3, litI .i64 i)] []) (fun i => i ≤ 17 ∧ ∀ j, j < i → markN j ≠ n) (fun i => 17 - i) 0 ?_ ⟨Nat.zero_le _, fun j hj => by omega⟩ ?_
            · (refine gstep_list rfl ?_ ?_ ?_ ?_ <;> (try simp only [go_sem, tail_one]) <;> (try simp))
            · rintro i ⟨hi, hinv⟩
              simp only [go_sem]
              refine CondR_if (fun hlt => ?_) (fun hge => ?_)
              · have f2 : ((i : Int) < (ByteArray.size marksS : Int)) = True := eq_true (by show (i : Int) < ((17 : Nat) : Int); omega)
                have f3 : ((0 : Int) ≤ (i : Int)) = True := eq_true (by omega)
                simp only [go_sem, f2, f3, strOk, strV, Int.toNat_natCast, hat]
                (repeat (refine And.intro (by omega) ?_))
                refine CondR_if (fun he => ?_) (fun hne => ?_)
                · have : mk = true := hm.2 ⟨i, by omega, by omega⟩
                  rw [this]
                  simp only [go_sem]
                · simp only [go_sem]
                  refine ⟨i + 1, ⟨by omega, fun j hj => ?_⟩, (by show 17 - (i + 1) < 17 - i; omega), ?_⟩
                  · by_cases e : j = i
                    · subst e; omega
                    · exact hinv j (by omega)
                  · (refine gstep_list rfl ?_ ?_ ?_ ?_ <;> (try simp only [go_sem, tail_one, wrap_i64 (n := (i : Int) + 1) (by omega) (by omega)]) <;> (try simp))
              · have : mk = false := by
                  cases e : mk with
                  | false => rfl
                  | true =>
                    obtain ⟨j, j1, j2⟩ := hm.1 e
                    exact (hinv j (by omega) j2).elim
                rw [this]
                simp only [go_sem]
        | false =>
          simp only [go_sem, c1, c2, c3]
          refine loop_inv (fun i : Nat => stL 30 [(0, litI .u8 n), (3, litI .i64 i)] []) (fun i => i ≤ 17 ∧ ∀ j, j < i → markN j ≠ n) (fun i => 17 - i) 0 ?_ ⟨Nat.zero_le _, fun j hj => by omega⟩ ?_
          · (refine gstep_list rfl ?_ ?_ ?_ ?_ <;> (try simp only [go_sem, tail_one]) <;> (try simp))
          · rintro i ⟨hi, hinv⟩
            simp only [go_sem]
            refine CondR_if (fun hlt => ?_) (fun hge => ?_)
            · have f2 : ((i : Int) < (ByteArray.size marksS : Int)) = True := eq_true (by show (i : Int) < ((17 : Nat) : Int); omega)
              have f3 : ((0 : Int) ≤ (i : Int)) = True := eq_true (by omega)
              simp only [go_sem, f2, f3, strOk, strV, Int.toNat_natCast, hat]
              (repeat (refine And.intro (by omega) ?_))
              refine CondR_if (fun he => ?_) (fun hne => ?_)
              · have : mk = true := hm.2 ⟨i, by omega, by omega⟩
                rw [this]
                simp only [go_sem]
              · simp only [go_sem]
                refine ⟨i + 1, ⟨by omega, fun j hj => ?_⟩, (by show 17 - (i + 1) < 17 - i; omega), ?_⟩
                · by_cases e : j = i
                  · subst e; omega
                  · exact hinv j (by omega)
                · (refine gstep_list rfl ?_ ?_ ?_ ?_ <;> (try simp only [go_sem, tail_one, wrap_i64 (n := (i : Int) + 1) (by omega) (by omega)]) <;> (try simp))
            · have : mk = false := by
                cases e : mk with
                | false => rfl
                | true =>
                  obtain ⟨j, j1, j2⟩ := hm.1 e
                  exact (hinv j (by omega) j2).elim
              rw [this]
              simp only [go_sem]
    | false =>
      cases c3 : decide (65 ≤ (n : Int)) with
      | true =>
        cases c4 : decide ((n : Int) ≤ 90) with
        | true => simp only [go_sem, c1, c3, c4]
        | false =>
          simp only [go_sem, c1, c3, c4]
          refine loop_inv (fun i : Nat => stL 30 [(0, litI .u8 n), (3, litI .i64 i)] []) (fun i => i ≤ 17 ∧ ∀ j, j < i → markN j ≠ n) (fun i => 17 - i) 0 ?_ ⟨Nat.zero_le _, fun j hj => by omega⟩ ?_
          · (refine gstep_list rfl ?_ ?_ ?_ ?_ <;> (try simp only [go_sem, tail_one]) <;> (try simp))
          · rintro i ⟨hi, hinv⟩
            simp only [go_sem]
            refine CondR_if (fun hlt => ?_) (fun hge => ?_)
            · have f2 : ((i : Int) < (ByteArray.size marksS : Int)) = True := eq_true (by show (i : Int) < ((17 : Nat) : Int); omega)
              have f3 : ((0 : Int) ≤ (i : Int)) = True := eq_true (by omega)
              simp only [go_sem, f2, f3, strOk, strV, Int.toNat_natCast, hat]
              (repeat (refine And.intro (by omega) ?_))
              refine CondR_if (fun he => ?_) (fun hne => ?_)
              · have : mk = true := hm.2 ⟨i, by omega, by omega⟩
                rw [this]
                simp only [go_sem]
              · simp only [go_sem]
                refine ⟨i + 1, ⟨by omega, fun j hj => ?_⟩, (by show 17 - (i + 1) < 17 - i; omega), ?_⟩
                · by_cases e : j = i
                  · subst e; omega
                  · exact hinv j (by omega)
                · (refine gstep_list rfl ?_ ?_ ?_ ?_ <;> (try simp only [go_sem, tail_one, wrap_i64 (n := (i : Int) + 1) (by omega) (by omega)]) <;> (try simp))
            · have : mk = false := by
                cases e : mk with
                | false => rfl
                | true =>
                  obtain ⟨j, j1, j2⟩ := hm.1 e
                  exact (hinv j (by omega) j2).elim
              rw [this]
              simp only [go_sem]
      | false =>
        simp only [go_sem, c1, c3]
        refine loop_inv (fun i : Nat => stL 30 [(0, litI .u8 n), (3, litI .i64 i)] []) (fun i => i ≤ 17 ∧ ∀ j, j < i → markN j ≠ n) (fun i => 17 - i) 0 ?_ ⟨Nat.zero_le _, fun j hj => by omega⟩ ?_
        · (refine gstep_list rfl ?_ ?_ ?_ ?_ <;> (try simp only [go_sem, tail_one]) <;> (try simp))
        · rintro i ⟨hi, hinv⟩
          simp only [go_sem]
          refine CondR_if (fun hlt => ?_) (fun hge => ?_)
          · have f2 : ((i : Int) < (ByteArray.size marksS : Int)) = True := eq_true (by show (i : Int) < ((17 : Nat) : Int); omega)
            have f3 : ((0 : Int) ≤ (i : Int)) = True := eq_true (by omega)
            simp only [go_sem, f2, f3, strOk, strV, Int.toNat_natCast, hat]
            (repeat (refine And.intro (by omega) ?_))
            refine CondR_if (fun he => ?_) (fun hne => ?_)
            · have : mk = true := hm.2 ⟨i, by omega, by omega⟩
              rw [this]
              simp only [go_sem]
            · simp only [go_sem]
              refine ⟨i + 1, ⟨by omega, fun j hj => ?_⟩, (by show 17 - (i + 1) < 17 - i; omega), ?_⟩
              · by_cases e : j = i
                · subst e; omega
                · exact hinv j (by omega)
              · (refine gstep_list rfl ?_ ?_ ?_ ?_ <;> (try simp only [go_sem, tail_one, wrap_i64 (n := (i : Int) + 1) (by omega) (by omega)]) <;> (try simp))
          · have : mk = false := by
              cases e : mk with
              | false => rfl
              | true =>
                obtain ⟨j, j1, j2⟩ := hm.1 e
                exact (hinv j (by omega) j2).elim
            rw [this]
            simp only [go_sem]
set_option maxRecDepth 100000 in
theorem r8_Symbol (s : ByteArray) (hs : s.size < 9223372036854775807) : PCall Tryz.prog 84 [tS s] (tB (symB s)) := by
  refine pcall_of_wpA mixed Tryz.call84 Tryz.func84 rfl Tryz.ntmps84 Tryz.results84 (by simp) (by decide) ?_
  obtain ⟨k, k1, k2, k3, k4⟩ := lead s signB
  simp only [go_sem]
  refine loop_inv (fun i : Nat => stL 29 [(0, .one (.t (.lit (.string s)))), (3, litI .i64 i)] []) (fun i => i ≤ k) (fun i => k - i) 0 ?_ (Nat.zero_le _) ?_
  · (refine gstep_list rfl ?_ ?_ ?_ ?_ <;> (try simp only [go_sem, tail_one]) <;> (try simp))
  · intro i hi
    by_cases hlt : i < s.size
    · have f1 : decide ((i : Int) < (s.size : Int)) = true := decide_eq_true (by omega)
      have hc := r8_sign s[i]!
      have f2 : ((i : Int) < (s.size : Int)) = True := eq_true (by omega)
      have f3 : ((0 : Int) ≤ (i : Int)) = True := eq_true (by omega)
      simp only [go_sem, f1, f2, f3, strOk, strV, Int.toNat_natCast]
      (repeat (refine And.intro (by omega) ?_))
      refine call_pure hc rfl ?_
      by_cases hik : i < k
      · have c := k2 i hik
        simp only [go_sem, c]
        refine ⟨i + 1, hik, (by show k - (i + 1) < k - i; omega), ?_⟩
        (refine gstep_list rfl ?_ ?_ ?_ ?_ <;> (try simp only [go_sem, tail_one, wrap_i64 (n := (i : Int) + 1) (by omega) (by omega)]) <;> (try simp))
      · obtain rfl : i = k := by omega
        have c := k3 hlt
        have e : symB s = false := by
          unfold symB
          rw [← k4, decide_eq_false (show ¬ i = s.size by omega)]; simp
        rw [e]
        simp only [go_sem, c]
    · obtain rfl : i = k := by omega
      have f1 : decide ((i : Int) < (s.size : Int)) = false := decide_eq_false (by omega)
      have e : symB s = (decide (1 ≤ (s.size : Int)) && decide ((s.size : Int) ≤ 20) && !(digitB s[0]!)) := by
        unfold symB
        rw [← k4, decide_eq_true (show i = s.size by omega), Bool.and_true]
        congr 1
        congr 1
        · exact decide_eq_decide.2 (by omega)
        · exact decide_eq_decide.2 (by omega)
      have hd := r8_digit s[0]!
      rw [e]
      generalize digitB s[0]! = d at *
      cases c1 : decide (1 ≤ (s.size : Int)) with
      | false => simp only [go_sem, f1, c1]
      | true =>
        have f2 : ((0 : Int) < (s.size : Int)) = True := eq_true (by have := of_decide_eq_true c1; omega)
        cases c2 : decide ((s.size : Int) ≤ 20) with
        | false => simp only [go_sem, f1, c1, c2]
        | true =>
          simp only [go_sem, f1, c1, c2, strOk, strV, f2]
          (repeat (refine And.intro (by omega) ?_))
          refine call_pure hd rfl ?_
          simp only [go_sem]
end Go.Proofs.YtgnfgaioeldagaaGreat
namespace Go.Proofs.YtgnfgaioeldagaaGreat
open Go Go.Abs
set_option maxHeartbeats 8000000
theorem sortB_not (n : Int) : (!(decide (n = 1)) && !(decide (n = 2))) = !(sortB n) := by unfold sortB; rw [Bool.not_or]
theorem dne (n m : Int) : decide (n ≠ m) = !(decide (n = m)) := by
  by_cases h : n = m
  · rw [decide_eq_true h, decide_eq_false (fun e => e h)]; rfl
  · rw [decide_eq_false h, decide_eq_true h]; rfl
set_option maxRecDepth 100000 in
theorem r_IsSig (s : Sg) (hs : s.1.size < 9223372036854775807) (hl : s.2.1.length < 9223372036854775807) : PCall Tryz.prog 46 [gSg s] (tB (sigB s)) := by
  refine pcall_of_wpA mixed Tryz.call46 Tryz.func46 rfl Tryz.ntmps46 Tryz.results46 (by simp) (by decide) ?_
  obtain ⟨nm, ar, rt⟩ := s
  have hl : ar.length < 9223372036854775807 := hl
  have hs : nm.size < 9223372036854775807 := hs
  simp only [go_sem]
  refine loop_inv (fun i : Nat => stL 44 [(1, .one (.ptr 1 0)), (3, litI .i64 i)] [(1, [.t (.lit (.string nm)), .t (eL cInt ar), .t (.lit (.int .i64 rt))])])
    (fun i => i ≤ ar.length ∧ (ar.take i).all sortB = true) (fun i => ar.length - i) 0 ?_ ⟨Nat.zero_le _, by simp⟩ ?_
  · (refine gstep_list rfl ?_ ?_ ?_ ?_ <;> (try simp only [go_sem, tail_one]) <;> (try simp))
  · rintro i ⟨hi, hinv⟩
    simp only [go_sem]
    refine CondR_if (fun hlt => ?_) (fun hge => ?_)
    · have hlt' : i < ar.length := by omega
      have hel : elemD cInt ar i = cInt ar[i] := elemD_lt hlt'
      have hsx := all_take_succ (p := sortB) hlt'
      have hno := all_no (p := sortB) hlt'
      generalize ar[i] = n at *
      cases c1 : decide (n = 1) with
      | true =>
        have c : sortB n = true := by unfold sortB; rw [c1]; rfl
        simp only [go_sem, hel, dne, c1]
        (repeat (refine And.intro (by omega) ?_))
        refine ⟨i + 1, ⟨hlt', by rw [hsx, hinv, c]; rfl⟩, (by show ar.length - (i + 1) < ar.length - i; omega), ?_⟩
        (refine gstep_list rfl ?_ ?_ ?_ ?_ <;> (try simp only [go_sem, tail_one, wrap_i64 (n := (i : Int) + 1) (by omega) (by omega)]) <;> (try simp))
      | false =>
        cases c2 : decide (n = 2) with
        | true =>
          have c : sortB n = true := by unfold sortB; rw [c1, c2]; rfl
          simp only [go_sem, hel, dne, c1, c2]
          (repeat (refine And.intro (by omega) ?_))
          refine ⟨i + 1, ⟨hlt', by rw [hsx, hinv, c]; rfl⟩, (by show ar.length - (i + 1) < ar.length - i; omega), ?_⟩
          (refine gstep_list rfl ?_ ?_ ?_ ?_ <;> (try simp only [go_sem, tail_one, wrap_i64 (n := (i : Int) + 1) (by omega) (by omega)]) <;> (try simp))
        | false =>
          have c : sortB n = false := by unfold sortB; rw [c1, c2]; rfl
          have e : sigB (nm, ar, rt) = false := by
            show (ar.all sortB && symB nm && decide (ar.length ≤ 3) && sortB rt) = false
            rw [hno c]; simp
          rw [e]
          simp only [go_sem, hel, dne, c1, c2]
          omega
    · obtain rfl : i = ar.length := by omega
      rw [List.take_length] at hinv
      have h1 := r8_Symbol nm hs
      have e : sigB (nm, ar, rt) = (symB nm && decide ((ar.length : Int) ≤ 3) && sortB rt) := by
        show (ar.all sortB && symB nm && decide (ar.length ≤ 3) && sortB rt) = _
        rw [hinv, Bool.true_and]
        congr 2
        exact decide_eq_decide.2 (by omega)
      rw [e]
      generalize symB nm = q at *
      cases q with
      | false =>
        simp only [go_sem]
        refine call_pure h1 rfl ?_
        simp only [go_sem]
      | true =>
        cases c : decide ((ar.length : Int) ≤ 3) with
        | false =>
          simp only [go_sem, c]
          refine call_pure h1 rfl ?_
          simp only [go_sem, c]
        | true =>
          unfold sortB
          cases c1 : decide (rt = 1) with
          | true =>
            simp only [go_sem, c]
            refine call_pure h1 rfl ?_
            simp only [go_sem, c, c1]
          | false =>
            simp only [go_sem, c]
            refine call_pure h1 rfl ?_
            simp only [go_sem, c, c1]
set_option maxRecDepth 100000 in
theorem r_SameSig (a b : Sg) (ha : a.2.1.length < 9223372036854775807) : PCall Tryz.prog 55 [gSg a, gSg b] (tB (decide (a = b))) := by
  refine pcall_of_wpA mixed Tryz.call55 Tryz.func55 rfl Tryz.ntmps55 Tryz.results55 (by simp) (by decide) ?_
  have e : decide (a = b) = (decide (a.1 = b.1) && decide (a.2.2 = b.2.2) && decide (a.2.1 = b.2.1)) := by
    obtain ⟨a1, a2, a3⟩ := a
    obtain ⟨b1, b2, b3⟩ := b
    rw [Bool.eq_iff_iff]
    simp only [decide_eq_true_eq, Bool.and_eq_true, Prod.mk.injEq]
    exact ⟨fun ⟨h1, h2, h3⟩ => ⟨⟨h1, h3⟩, h2⟩, fun ⟨⟨h1, h3⟩, h2⟩ => ⟨h1, h2, h3⟩⟩
  rw [e]
  have hs := bytes_eq a.1 b.1
  obtain ⟨an, a, ar⟩ := a
  obtain ⟨bn, b, br⟩ := b
  have ha : a.length < 9223372036854775807 := ha
  have hs : (an.toList == bn.toList) = decide (an = bn) := hs
  show wpA _ _ (retQ _ _ (tB (decide (an = bn) && decide (ar = br) && decide (a = b)))) _
  cases c1 : decide (an = bn) with
  | false => rw [c1] at hs; simp only [go_sem, hs]
  | true =>
    rw [c1] at hs
    cases c2 : decide (ar = br) with
    | false => simp only [go_sem, hs, dne, c2]
    | true =>
      by_cases hlen : a.length = b.length
      · have c3 : decide ((a.length : Int) = (b.length : Int)) = true := decide_eq_true (by omega)
        simp only [go_sem, hs, dne, c2, c3]
        refine loop_inv (fun i : Nat => stL 45 [(2, .one (.ptr 2 0)), (3, .one (.ptr 3 0)), (5, litI .i64 i)] [(2, [.t (.lit (.string an)), .t (eL cInt a), .t (.lit (.int .i64 ar))]), (3, [.t (.lit (.string bn)), .t (eL cInt b), .t (.lit (.int .i64 br))])])
          (fun i => i ≤ a.length ∧ a.take i = b.take i) (fun i => a.length - i) 0 ?_ ⟨Nat.zero_le _, by simp⟩ ?_
        · (refine gstep_list rfl ?_ ?_ ?_ ?_ <;> (try simp only [go_sem, tail_one]) <;> (try simp))
        · rintro i ⟨hi, hinv⟩
          simp only [go_sem]
          refine CondR_if (fun hlt => ?_) (fun hge => ?_)
          · have hlt' : i < a.length := by omega
            have hlt2 : i < b.length := by omega
            have h1 : elemD cInt a i = cInt a[i] := elemD_lt hlt'
            have h2 : elemD cInt b i = cInt b[i] := elemD_lt hlt2
            have hs := take_succ_eq hlt' hlt2 hinv
            have hno : ¬ a[i] = b[i] → ¬ a = b := fun h e => h (by subst e; rfl)
            have hl2 : ((i : Int) < (b.length : Int)) = True := eq_true (by omega)
            generalize a[i] = x at *
            generalize b[i] = y at *
            simp only [go_sem, h1, h2, hlt, hl2]
            refine regA_by 0 rfl ?_
            simp only [go_sem, h1, h2, hlt, hl2]
            (repeat (refine And.intro (by omega) ?_))
            refine CondR_if (fun hne => ?_) (fun he => ?_)
            · rw [decide_eq_false (hno (by simpa using hne))]
              simp only [go_sem]
            · have he : x = y := by simpa using he
              simp only [go_sem]
              refine ⟨i + 1, ⟨hlt', hs.2 he⟩, (by show a.length - (i + 1) < a.length - i; omega), ?_⟩
              (refine gstep_list rfl ?_ ?_ ?_ ?_ <;> (try simp only [go_sem, tail_one, wrap_i64 (n := (i : Int) + 1) (by omega) (by omega)]) <;> (try simp))
          · obtain rfl : i = a.length := by omega
            rw [List.take_length, hlen, List.take_length] at hinv
            rw [decide_eq_true hinv]
            simp only [go_sem]
      · have c3 : decide ((a.length : Int) = (b.length : Int)) = false := decide_eq_false (by omega)
        rw [decide_eq_false (fun e => hlen (by rw [e]))]
        simp only [go_sem, hs, dne, c2, c3]
end Go.Proofs.YtgnfgaioeldagaaGreat
namespace Go.Proofs.YtgnfgaioeldagaaGreat
open Go Go.Abs
set_option maxHeartbeats 8000000
set_option maxRecDepth 100000 in
theorem r_count : ∀ (most : Nat) (t : Tm), most < 1000000 → KT t → PCall Tryz.prog 78 [gT t, tI .i64 most] (tI .i64 (min most t.nodes : Nat)) := by
  intro most
  induction most using Nat.strongRecOn with
  | ind most ih =>
  intro t hm hK
  refine pcall_of_wpA mixed Tryz.call78 Tryz.func78 rfl Tryz.ntmps78 Tryz.results78 (by simp) (by decide) ?_
  obtain ⟨_, _, k3, k4⟩ := (KT_eq t).1 hK
  obtain ⟨R, hR⟩ : ∃ R : Nat, R = min most t.nodes := ⟨_, rfl⟩
  rw [← hR]
  simp only [go_sem, cT_eq]
  have hnt := nodes_eq t
  generalize t.kids = l at *
  generalize t.nodes = nt at *
  generalize t.op = t1 at *
  generalize t.num = t2 at *
  generalize t.name = t3 at *
  generalize t.sort = t4 at *
  obtain ⟨F, hF⟩ : ∃ F : Nat → Nat, F = fun i => if i = 0 then 1 else min most (1 + nodesL (l.take i)) := ⟨_, rfl⟩
  refine loop_inv (fun i : Nat => stL 33 [(1, litI .i64 most), (2, .one (.ptr 2 0)), (5, litI .i64 (F i : Nat)), (6, litI .i64 i)] [(2, [.t (.lit (.int .i64 t1)), .t (.lit (.bool t2.1)), .t (eN t2.2), .t (.lit (.string t3)), .t (.lit (.int .i64 t4)), .t (eL cT l)])])
    (fun i => i ≤ l.length) (fun i => l.length - i) 0 ?_ (Nat.zero_le _) ?_
  · have e : ((F 0 : Nat) : Int) = 1 := by rw [hF]; rfl
    (refine gstep_list rfl ?_ ?_ ?_ ?_ <;> (try simp only [go_sem, tail_one, e]) <;> (try simp))
  · intro i hi
    obtain ⟨c, hc⟩ : ∃ c : Nat, c = F i := ⟨_, rfl⟩
    have hFi : F i = if i = 0 then 1 else min most (1 + nodesL (l.take i)) := by rw [hF]
    have hFn : F (i + 1) = min most (1 + nodesL (l.take (i + 1))) := by rw [hF]; rfl
    have hcm : min most c = min most (1 + nodesL (l.take i)) := by
      rw [hc, hFi]; split
      · rename_i h0; subst h0; rw [List.take_zero, nodesL_nil]
      · omega
    have hc2 : c ≤ max 1 most := by rw [hc, hFi]; split <;> omega
    have hc3 : c < most → c = 1 + nodesL (l.take i) := fun h => by omega
    rw [← hc]
    by_cases hlt : i < l.length
    · have f1 : decide ((i : Int) < (l.length : Int)) = true := decide_eq_true (by omega)
      by_cases hcl : c < most
      · have f2 : decide ((c : Int) < (most : Int)) = true := decide_eq_true (by omega)
        have hel : elemD cT l i = cT l[i] := elemD_lt hlt
        have hs := nodesL_take_succ hlt
        have hKt := k4 _ (List.getElem_mem hlt)
        have h1 := ih (most - c) (by omega) l[i] (by omega) hKt
        rw [show gT l[i] = TV.agg (cT l[i]) from rfl, cT_eq] at h1
        generalize hq : min (most - c) l[i].nodes = q at *
        generalize hnx : nodesL (l.take (i + 1)) = nx at *
        generalize l[i] = t at *
        have e1 : IntKind.i64.wrap ((most : Int) - (c : Int)) = ((most - c : Nat) : Int) := by rw [wrap_i64 (by omega) (by omega)]; omega
        have e2 : IntKind.i64.wrap ((c : Int) + (q : Int)) = (c : Int) + q := wrap_i64 (by omega) (by omega)
        have f3 : ((i : Int) < (l.length : Int)) = True := eq_true (by omega)
        simp only [go_sem, f1, f2, f3, hel, cT_eq, e1]
        (repeat (refine And.intro (by omega) ?_))
        refine call_pure h1 rfl ?_
        simp only [go_sem, e2]
        refine ⟨i + 1, hlt, (by show l.length - (i + 1) < l.length - i; omega), ?_⟩
        have e5 : ((F (i + 1) : Nat) : Int) = (c : Int) + (q : Int) := by rw [hFn]; omega
        (refine gstep_list rfl ?_ ?_ ?_ ?_ <;> (try simp only [go_sem, tail_one, e5, wrap_i64 (n := (i : Int) + 1) (by omega) (by omega)]) <;> (try simp))
      · have f2 : decide ((c : Int) < (most : Int)) = false := decide_eq_false (by omega)
        have e5 : (if (most : Int) < (c : Int) then (most : Int) else (c : Int)) = (R : Int) := by
          have hle : nodesL (l.take i) ≤ nodesL l := by
            have e : nodesL l = nodesL (l.take i) + nodesL (l.drop i) := by
              have app : ∀ a b : List Tm, nodesL (a ++ b) = nodesL a + nodesL b := fun a b => by
                induction a with
                | nil => rw [List.nil_append, nodesL_nil, Nat.zero_add]
                | cons x a ih => rw [List.cons_append, nodesL_cons, nodesL_cons, ih, Nat.add_assoc]
              rw [← app, List.take_append_drop]
            omega
          split <;> omega
        simp only [go_sem, f1, f2]
        generalize hz : (if (most : Int) < (c : Int) then (most : Int) else (c : Int)) = z at *
        exact e5
    · obtain rfl : i = l.length := by omega
      have f1 : decide (((l.length : Nat) : Int) < ((l.length : Nat) : Int)) = false := decide_eq_false (by omega)
      rw [List.take_length] at hcm
      have e5 : (if (most : Int) < (c : Int) then (most : Int) else (c : Int)) = (R : Int) := by
        split <;> omega
      simp only [go_sem, f1]
      generalize hz : (if (most : Int) < (c : Int) then (most : Int) else (c : Int)) = z at *
      exact e5
set_option maxRecDepth 100000 in
theorem r_Count (t : Tm) (hK : KT t) : PCall Tryz.prog 39 [gT t] (tI .i64 (min 401 t.nodes : Nat)) := by
  refine pcall_of_wpA mixed Tryz.call39 Tryz.func39 rfl Tryz.ntmps39 Tryz.results39 (by simp) (by decide) ?_
  have h := r_count 401 t (by decide) hK
  rw [show gT t = TV.agg (cT t) from rfl, cT_eq] at h
  generalize min 401 t.nodes = n at *
  simp only [go_sem, cT_eq]
  refine call_pure h rfl ?_
  simp only [go_sem]
set_option maxRecDepth 100000 in
theorem r_args (op : Int) (n : Nat) : PCall Tryz.prog 101 [tI .i64 op, tI .i64 n] (tB (kidsB op n)) := by
  refine pcall_of_wpA mixed Tryz.call101 Tryz.func101 rfl Tryz.ntmps101 Tryz.results101 (by simp) (by decide) ?_
  simp only [go_sem]
  repeat' (first | omega | (refine CondR_if (fun _ => ?_) (fun _ => ?_)) | simp only [go_sem])
  all_goals (unfold kidsB; repeat' split)
  all_goals first | omega | (simp; omega)
set_option maxRecDepth 100000 in
theorem r_result (op : Int) (l : List Tm) (h1 : 5 ≤ op) (h2 : op ≤ 22) (hk : kidsB op l.length = true) : PCall Tryz.prog 103 [tI .i64 op, tLT l] (tI .i64 (sortR op l)) := by
  refine pcall_of_wpA mixed Tryz.call103 Tryz.func103 rfl Tryz.ntmps103 Tryz.results103 (by simp) (by decide) ?_
  by_cases c : op = 12
  · subst c
    obtain ⟨a, b, d, rfl⟩ := len3 (l := l) (by simpa [kidsB] using hk)
    have hel : elemD cT [a, b, d] 1 = cT b := rfl
    simp only [go_sem, hel, cT_eq]
    rfl
  · rcases ops18 h1 h2 with rfl | rfl | rfl | rfl | rfl | rfl | rfl | rfl | rfl | rfl | rfl | rfl | rfl | rfl | rfl | rfl | rfl | rfl <;> first | exact (c rfl).elim | (simp only [go_sem]; rfl)
set_option maxRecDepth 100000 in
theorem r_all (s : Int) (l : List Tm) (hl : l.length < 1000000000) : PCall Tryz.prog 151 [tLT l, tI .i64 s] (tB (ofB s l)) := by
  refine pcall_of_wpA mixed Tryz.call151 Tryz.func151 rfl Tryz.ntmps151 Tryz.results151 (by simp) (by decide) ?_
  simp only [go_sem]
  refine loop_inv (fun i : Nat => stL 19 [(0, .one (.t (eL cT l))), (1, litI .i64 s), (5, litI .i64 i)] []) (fun i => i ≤ l.length ∧ (l.take i).all (fun t => decide (t.sort = s)) = true) (fun i => l.length - i) 0 ?_ ⟨Nat.zero_le _, by simp⟩ ?_
  · (refine gstep_list rfl ?_ ?_ ?_ ?_ <;> (try simp only [go_sem, tail_one]) <;> (try simp))
  · rintro i ⟨hi, hinv⟩
    simp only [go_sem]
    refine CondR_if (fun hlt => ?_) (fun hge => ?_)
    · have hlt' : i < l.length := by omega
      have hel : elemD cT l i = cT l[i] := elemD_lt hlt'
      have hs := all_take_succ (p := fun t => decide (t.sort = s)) hlt'
      have hno := all_no (p := fun t => decide (t.sort = s)) hlt'
      generalize l[i] = t at *
      simp only [go_sem, hel, cT_eq]
      (repeat (refine And.intro (by omega) ?_))
      refine CondR_if (fun hne => ?_) (fun he => ?_)
      · rw [show ofB s l = false from hno (decide_eq_false (by simpa using hne))]
        simp only [go_sem]
      · have he : t.sort = s := by simpa using he
        simp only [go_sem]
        refine ⟨i + 1, ⟨hlt', ?_⟩, (by show l.length - (i + 1) < l.length - i; omega), ?_⟩
        · rw [hs, hinv]; simp [he]
        · (refine gstep_list rfl ?_ ?_ ?_ ?_ <;> (try simp only [go_sem, tail_one, wrap_i64 (n := (i : Int) + 1) (by omega) (by omega)]) <;> (try simp))
    · obtain rfl : i = l.length := by omega
      rw [List.take_length] at hinv
      rw [show ofB s l = true from hinv]
      simp only [go_sem]
end Go.Proofs.YtgnfgaioeldagaaGreat
namespace Go.Proofs.YtgnfgaioeldagaaGreat
open Go Go.Abs
set_option maxHeartbeats 8000000
set_option maxRecDepth 100000 in
theorem r_Number (t : Tm) (hl : ∀ k ∈ t.kids, k.num.2.length < 10000000000000) : PCall Tryz.prog 152 [gT t] (.tup [gI (numT t).1.1 (numT t).1.2, tB (numT t).2]) := by
  refine pcall_of_wpA mixed Tryz.call152 Tryz.func152 rfl Tryz.ntmps152 Tryz.results152 (by simp) (by decide) ?_
  by_cases c1 : t.op = 1
  · have e : numT t = (t.num, true) := if_pos c1
    rw [e]
    have c1 := decide_eq_true c1
    simp only [go_sem, cT_eq, c1]
    exact fz_tup2 (fz_agg2 .t .t) (.one .t)
  · have f1 := decide_eq_false c1
    by_cases c2 : t.op = 14
    · have f2 := decide_eq_true c2
      by_cases c3 : ∃ k, t.kids = [k]
      · obtain ⟨k, hk⟩ := c3
        have hel : elemD cT [k] 0 = cT k := rfl
        have e : numT t = if k.op = 1 then (encZ (-(zv k.num)), true) else (zzI, false) := by
          unfold numT; rw [if_neg c1, if_pos c2, hk]
        rw [e]
        by_cases c4 : k.op = 1
        · have f4 := decide_eq_true c4
          have h := i_Neg k.num.1 k.num.2 (hl k (by rw [hk]; exact List.mem_singleton.2 rfl))
          rw [if_pos c4]
          simp only [go_sem, cT_eq, f1, f2, hk, hel, f4]
          refine call_pure h rfl ?_
          simp only [go_sem]
          exact fz_tup2 (fz_agg2 .t .t) (.one .t)
        · have f4 := decide_eq_false c4
          rw [if_neg c4]
          simp only [go_sem, cT_eq, f1, f2, hk, hel, f4]
          exact fz_tup2 (fz_agg2 .t .weak) (.one .t)
      · have e : numT t = (zzI, false) := by
          unfold numT; rw [if_neg c1, if_pos c2]
          split
          · rename_i k hk; exact (c3 ⟨k, hk⟩).elim
          · rfl
        have c5 : ¬ t.kids.length = 1 := fun h => c3 (len1 h)
        have f5 : decide ((t.kids.length : Int) = 1) = false := decide_eq_false (by omega)
        rw [e]
        simp only [go_sem, cT_eq, f1, f2, f5]
        exact fz_tup2 (fz_agg2 .t .weak) (.one .t)
    · have f2 := decide_eq_false c2
      have e : numT t = (zzI, false) := by unfold numT; rw [if_neg c1, if_neg c2]
      rw [e]
      simp only [go_sem, cT_eq, f1, f2]
      exact fz_tup2 (fz_agg2 .t .weak) (.one .t)
set_option maxRecDepth 100000 in
theorem r_sorted (op : Int) (l : List Tm) (hl : l.length < 1000000000) (hk : kidsB op l.length = true) : PCall Tryz.prog 136 [tI .i64 op, tLT l] (tB (sortsB op l)) := by
  refine pcall_of_wpA mixed Tryz.call136 Tryz.func136 rfl Tryz.ntmps136 Tryz.results136 (by simp) (by decide) ?_
  by_cases c1 : op = 5 ∨ op = 6 ∨ op = 7 ∨ op = 8 ∨ op = 9
  · have h := r_all 1 l hl
    have e : sortsB op l = ofB 1 l := if_pos c1
    rw [e]
    simp only [go_sem]
    repeat' (first | omega | (refine CondR_if (fun _ => ?_) (fun _ => ?_)) | simp only [go_sem])
    all_goals
      refine call_pure h rfl ?_
      simp only [go_sem]
  · by_cases c2 : op = 12
    · subst c2
      obtain ⟨a, b, c, rfl⟩ := len3 (l := l) (by simpa [kidsB] using hk)
      have e : sortsB 12 [a, b, c] = (decide (a.sort = 1) && decide (b.sort = c.sort)) := by
        show (decide (a.sort = 1) && decide (c.sort = b.sort)) = _
        congr 1; exact decide_eq_decide.2 ⟨fun h => h.symm, fun h => h.symm⟩
      have g0 : elemD cT [a, b, c] 0 = cT a := rfl
      have g1 : elemD cT [a, b, c] 1 = cT b := rfl
      have g2 : elemD cT [a, b, c] 2 = cT c := rfl
      rw [e]
      simp only [go_sem, g0, g1, g2, cT_eq]
      cases c : decide (a.sort = 1) with
      | false =>
        refine regA_by 0 rfl ?_
        simp only [go_sem, g0, g1, g2, cT_eq, c]
      | true =>
        refine regA_by 0 rfl ?_
        simp only [go_sem, g0, g1, g2, cT_eq, c]
    · by_cases c3 : op = 10 ∨ op = 11
      · have hn : 0 < l.length := by
          rcases c3 with rfl | rfl
          · have : l.length = 2 := by simpa [kidsB] using hk
            omega
          · have : 1 ≤ l.length := by simpa [kidsB] using hk
            omega
        obtain ⟨a, l', rfl⟩ : ∃ a l', l = a :: l' := by
          cases l with
          | nil => simp at hn
          | cons a l' => exact ⟨a, l', rfl⟩
        have h := r_all a.sort (a :: l') hl
        have e : sortsB op (a :: l') = ofB a.sort (a :: l') := by unfold sortsB; rw [if_neg c1, if_neg c2, if_pos c3]; rfl
        rw [e]
        have g0 : elemD cT (a :: l') 0 = cT a := rfl
        simp only [go_sem, g0, cT_eq]
        repeat' (first | omega | (refine CondR_if (fun _ => ?_) (fun _ => ?_)) | simp only [go_sem, g0, cT_eq])
        all_goals
          refine call_pure h rfl ?_
          simp only [go_sem]
      · have h := r_all 2 l hl
        have e : sortsB op l = ofB 2 l := by unfold sortsB; rw [if_neg c1, if_neg c2, if_neg c3]
        rw [e]
        simp only [go_sem]
        repeat' (first | omega | (refine CondR_if (fun _ => ?_) (fun _ => ?_)) | simp only [go_sem])
        refine call_pure h rfl ?_
        simp only [go_sem]
set_option maxRecDepth 100000 in
theorem r_linear (op : Int) (l : List Tm) (hs : smallK l) (hk : kidsB op l.length = true) : PCall Tryz.prog 137 [tI .i64 op, tLT l] (tI .i64 (linE op l)) := by
  refine pcall_of_wpA mixed Tryz.call137 Tryz.func137 rfl Tryz.ntmps137 Tryz.results137 (by simp) (by decide) ?_
  by_cases c1 : op = 15
  · subst c1
    obtain ⟨a, b, rfl⟩ := len2 (l := l) (by simpa [kidsB] using hk)
    have h1 := r_Number a (fun k hk => by have := (hs a (by simp)).2 k hk; omega)
    have h2 := r_Number b (fun k hk => by have := (hs b (by simp)).2 k hk; omega)
    have e : linE 15 [a, b] = if (numT a).2 || (numT b).2 then 0 else 19 := rfl
    rw [e]
    have g0 : elemD cT [a, b] 0 = cT a := rfl
    have g1 : elemD cT [a, b] 1 = cT b := rfl
    generalize numT a = na at *
    generalize numT b = nb at *
    obtain ⟨⟨a1, a2⟩, a3⟩ := na
    obtain ⟨⟨b1, b2⟩, b3⟩ := nb
    rw [show gT a = TV.agg (cT a) from rfl, cT_eq] at h1
    rw [show gT b = TV.agg (cT b) from rfl, cT_eq] at h2
    simp only [go_sem, g0, g1, cT_eq]
    refine call_pure h1 rfl ?_
    simp only [go_sem, g0, g1, cT_eq]
    refine call_pure h2 rfl ?_
    cases a3 <;> cases b3 <;> simp only [go_sem]
    all_goals rfl
  · by_cases c2 : op = 16 ∨ op = 17
    · obtain ⟨a, b, rfl⟩ := len2 (l := l) (by rcases c2 with rfl | rfl <;> simpa [kidsB] using hk)
      have h1 := r_Number b (fun k hk => by have := (hs b (by simp)).2 k hk; omega)
      have hn := numT_len (hs b (by simp))
      have e : linE op [a, b] = if (numT b).2 then (if zv (numT b).1 = 0 then 12 else 0) else 19 := by unfold linE; rw [if_neg c1, if_pos c2]; rfl
      rw [e]
      have g1 : elemD cT [a, b] 1 = cT b := rfl
      have hsg := i_Sign (numT b).1.1 (numT b).1.2 (by omega)
      generalize numT b = nb at *
      obtain ⟨⟨b1, b2⟩, b3⟩ := nb
      rw [show gT b = TV.agg (cT b) from rfl, cT_eq] at h1
      simp only [go_sem, g1, cT_eq]
      repeat' (first | omega | (refine CondR_if (fun _ => ?_) (fun _ => ?_)) | simp only [go_sem, g1, cT_eq])
      all_goals
        refine call_pure h1 rfl ?_
        cases b3 with
        | false => simp only [go_sem]; try rfl
        | true =>
          simp only [go_sem]
          refine call_pure hsg rfl ?_
          by_cases z : iv b1 b2 = 0
          · have z' : ((iv b1 b2).sign = 0) = True := eq_true (Int.sign_eq_zero_iff_zero.2 z)
            rw [if_pos (show zv (b1, b2) = 0 from z)]
            simp only [go_sem, z']
          · have z' : ((iv b1 b2).sign = 0) = False := eq_false (fun h => z (Int.sign_eq_zero_iff_zero.1 h))
            rw [if_neg (show ¬ zv (b1, b2) = 0 from z)]
            simp only [go_sem, z']
    · have e : linE op l = 0 := by unfold linE; rw [if_neg c1, if_neg c2]
      rw [e]
      simp only [go_sem]
      repeat' (first | omega | (refine CondR_if (fun _ => ?_) (fun _ => ?_)) | simp only [go_sem])
/-- What Make errs, but of its kids. -/
def chkE (op : Int) (l : List Tm) : Int := if sortsB op l then (if linE op l = 0 then (if 1 + nodesL l ≤ 400 then 0 else 11) else linE op l) else 17
theorem chkE_zero {op : Int} {l : List Tm} (h : 1 + nodesL l ≤ 400) : chkE op l = wrongE op l := by
  unfold chkE wrongE
  rw [if_pos h]
  split
  · split
    · rename_i e; rw [e]
    · rfl
  · rfl
abbrev tmKids (l : List Tm) : Tm := .mk 0 zzI { data := #[] } 0 l
theorem tw_kids {l : List Tm} : TVWs [.agg [.lit (.int .i64 0), .lit (.bool false), .seq (some true) [], .lit (.string { data := #[] }), .lit (.int .i64 0), eL cT l]] [gT (tmKids l)] := by
  rw [show gT (tmKids l) = TV.agg (cT (tmKids l)) from rfl, cT_eq]
  exact .cons (.agg (.cons .refl (.cons .refl (.cons .weak TWs.refl)))) .nil
set_option maxRecDepth 100000 in
theorem r_check (op : Int) (l : List Tm) (hl : l.length < 1000000000) (hs : smallK l) (hK : ∀ t ∈ l, KT t) (hk : kidsB op l.length = true) : PCall Tryz.prog 102 [tI .i64 op, tLT l] (tI .i64 (chkE op l)) := by
  refine pcall_of_wpA mixed Tryz.call102 Tryz.func102 rfl Tryz.ntmps102 Tryz.results102 (by simp) (by decide) ?_
  have h1 := r_sorted op l hl hk
  have h2 := r_linear op l hs hk
  have h3 := (r_Count (tmKids l) ((KT_eq _).2 ⟨by simp [Tm.num, zzI], by simp [Tm.name, ByteArray.size], by show l.length ≤ _; omega, hK⟩)).tw tw_kids
  have hn : (tmKids l).nodes = 1 + nodesL l := nodes_eq _
  rw [hn] at h3
  unfold chkE
  generalize hm : min 401 (1 + nodesL l) = m at *
  cases c : sortsB op l with
  | false =>
    rw [c] at h1
    simp only [go_sem]
    refine call_pure h1 rfl ?_
    simp only [go_sem]
    try rfl
  | true =>
    rw [c] at h1
    by_cases z : linE op l = 0
    · rw [z] at h2
      rw [if_pos (show true = true from rfl), if_pos z]
      simp only [go_sem]
      refine call_pure h1 rfl ?_
      simp only [go_sem]
      refine call_pure h2 rfl ?_
      simp only [go_sem]
      refine call_pure h3 rfl ?_
      by_cases c4 : 1 + nodesL l ≤ 400
      · have f : decide ((400 : Int) < (m : Int)) = false := decide_eq_false (by omega)
        rw [if_pos c4]
        simp only [go_sem, f]
      · have f : decide ((400 : Int) < (m : Int)) = true := decide_eq_true (by omega)
        rw [if_neg c4]
        simp only [go_sem, f]
    · rw [if_pos (show true = true from rfl), if_neg z]
      have z' : (linE op l = 0) = False := eq_false z
      generalize linE op l = e at *
      simp only [go_sem]
      refine call_pure h1 rfl ?_
      simp only [go_sem]
      refine call_pure h2 rfl ?_
      simp only [go_sem, z']
end Go.Proofs.YtgnfgaioeldagaaGreat
namespace Go.Proofs.YtgnfgaioeldagaaGreat
open Go Go.Abs
set_option maxHeartbeats 16000000
theorem zz_iff (p : ZI) : (IsZ p ∧ zv p = 0) ↔ p = zzI := by
  constructor
  · rintro ⟨h, e⟩
    have := enc_zv h
    rw [← this, e]; unfold encZ zzI; simp [dig_zero]
  · rintro rfl
    refine ⟨?_, ?_⟩
    · show IsI false []
      exact ⟨⟨(fun x hx => by cases hx), (by simp)⟩, .inr rfl⟩
    · show iv false [] = 0
      unfold iv; simp [val]
theorem sortR_sort {op : Int} {l : List Tm} (hk : kidsB op l.length = true) (h : ∀ k ∈ l, sortB k.sort = true) : sortB (sortR op l) = true := by
  unfold sortR
  split
  · rfl
  · split
    · rename_i _ c
      subst c
      obtain ⟨a, b, d, rfl⟩ := len3 (l := l) (by simpa [kidsB] using hk)
      exact h b (by simp)
    · rfl
theorem okT_sort : ∀ t : Tm, okT t = true → sortB t.sort = true := by
  refine Tm.ind fun t ih h => ?_
  rw [okT_all, Bool.and_eq_true] at h
  obtain ⟨h1, h2⟩ := h
  have hk : ∀ k ∈ t.kids, sortB k.sort = true := fun k hk => ih k hk (List.all_eq_true.1 h1 k hk)
  unfold nodeB at h2
  split at h2
  · simp only [Bool.and_eq_true, decide_eq_true_eq] at h2; rw [h2.1.2]; rfl
  · split at h2
    · simp only [Bool.and_eq_true, decide_eq_true_eq] at h2; rw [h2.1.2]; rfl
    · split at h2
      · simp only [Bool.and_eq_true] at h2
        have := h2.2
        unfold sigB at this
        simp only [Bool.and_eq_true] at this
        exact this.2
      · simp only [Bool.and_eq_true, decide_eq_true_eq] at h2
        rw [h2.2]
        exact sortR_sort h2.1.1.2 hk
theorem r_node_app {t : Tm} (h : t.kids.all okT = true) (c1 : ¬ t.op = 1) (c2 : ¬ (t.op = 2 ∨ t.op = 3)) (c4 : t.op = 4) : nodeB t = (decide (t.num = zzI) && symB t.name && decide ((t.kids.length : Int) ≤ 3) && sortB t.sort) := by
  unfold nodeB
  rw [if_neg c1, if_neg c2, if_pos c4]
  show (decide (t.num = zzI) && ((t.kids.map Tm.sort).all sortB && symB t.name && decide ((t.kids.map Tm.sort).length ≤ 3) && sortB t.sort)) = _
  have e : (t.kids.map Tm.sort).all sortB = true := by
    rw [List.all_map, List.all_eq_true]
    intro k hk
    exact okT_sort k (List.all_eq_true.1 h k hk)
  have e2 : decide ((t.kids.map Tm.sort).length ≤ 3) = decide ((t.kids.length : Int) ≤ 3) := by rw [List.length_map]; exact decide_eq_decide.2 (by omega)
  rw [e, e2, Bool.true_and, Bool.and_assoc, Bool.and_assoc, Bool.and_assoc]
set_option maxRecDepth 100000 in
theorem r_is : ∀ (n : Nat) (t : Tm), t.nodes ≤ n → n ≤ 400 → FT t → KT t → PCall Tryz.prog 66 [gT t] (tB (okT t)) := by
  intro n
  induction n with
  | zero => intro t h; have := nodes_pos t; omega
  | succ n ih =>
  intro t hn hn4 hF hK
  refine pcall_of_wpA mixed Tryz.call66 Tryz.func66 rfl Tryz.ntmps66 Tryz.results66 (by simp) (by decide) ?_
  have hkl := kids_len t
  have hnt := nodes_eq t
  obtain ⟨f1, f2, f3⟩ := (FT_eq t).1 hF
  obtain ⟨_, _, _, k4⟩ := (KT_eq t).1 hK
  have ek := okT_all t
  have hI := i_Is t.num.1 t.num.2 (by omega)
  have hSg := i_Sign t.num.1 t.num.2 (by omega)
  have hI : PCall Tryz.prog 85 [gI t.num.1 t.num.2] (tB (decide (IsZ t.num))) := hI
  have hzz := zz_iff t.num
  simp only [go_sem, cT_eq]
  refine loop_inv (fun i : Nat => stL 137 [(1, .one (.ptr 1 0)), (3, litI .i64 i)] [(1, [.t (.lit (.int .i64 t.op)), .t (.lit (.bool t.num.1)), .t (eN t.num.2), .t (.lit (.string t.name)), .t (.lit (.int .i64 t.sort)), .t (eL cT t.kids)])])
    (fun i => i ≤ t.kids.length ∧ (t.kids.take i).all okT = true) (fun i => t.kids.length - i) 0 ?_ ⟨Nat.zero_le _, by simp⟩ ?_
  · (refine gstep_list rfl ?_ ?_ ?_ ?_ <;> (try simp only [go_sem, tail_one]) <;> (try simp))
  · rintro i ⟨hi, hinv⟩
    simp only [go_sem]
    refine CondR_if (fun hlt => ?_) (fun hge => ?_)
    · have hlt' : i < t.kids.length := by omega
      have hel : elemD cT t.kids i = cT t.kids[i] := elemD_lt hlt'
      have hs := all_take_succ (p := okT) hlt'
      have hno := all_no (p := okT) hlt'
      have hm := nodes_kid (List.getElem_mem hlt')
      have h1 := ih t.kids[i] (by omega) (by omega) (f3 _ (List.getElem_mem hlt')) (k4 _ (List.getElem_mem hlt'))
      generalize t.kids[i] = k at *
      rw [show gT k = TV.agg (cT k) from rfl, cT_eq] at h1
      simp only [go_sem, hel, cT_eq]
      (repeat (refine And.intro (by omega) ?_))
      cases c : okT k with
      | false =>
        rw [c] at h1
        rw [show okT t = false by rw [ek, hno c]; rfl]
        refine call_pure h1 rfl ?_
        simp only [go_sem]
      | true =>
        rw [c] at h1
        refine call_pure h1 rfl ?_
        simp only [go_sem]
        refine ⟨i + 1, ⟨hlt', by rw [hs, hinv, c]; rfl⟩, (by show t.kids.length - (i + 1) < t.kids.length - i; omega), ?_⟩
        (refine gstep_list rfl ?_ ?_ ?_ ?_ <;> (try simp only [go_sem, tail_one, wrap_i64 (n := (i : Int) + 1) (by omega) (by omega)]) <;> (try simp))
    · obtain rfl : i = t.kids.length := by omega
      rw [List.take_length] at hinv
      have eo : okT t = nodeB t := by rw [ek, hinv, Bool.true_and]
      rw [eo]
      clear ek eo ih
      -- is the number nought
      have hq : ∃ q : Bool, q = decide (t.num = zzI) ∧ ∃ q1 q2 : Bool, decide (IsZ t.num) = q1 ∧ decide ((iv t.num.1 t.num.2).sign = 0) = q2 ∧ q = (q1 && q2) := by
        refine ⟨_, rfl, _, _, rfl, rfl, ?_⟩
        rw [Bool.eq_iff_iff, Bool.and_eq_true, decide_eq_true_eq, decide_eq_true_eq, decide_eq_true_eq, Int.sign_eq_zero_iff_zero]
        exact hzz.symm
      obtain ⟨q, hq0, q1, q2, hq1, hq2, hqq⟩ := hq
      have n0 := name0 t.name
      have k0 := empty0 t.kids
      rw [hq1] at hI
      generalize hsgn : (iv t.num.1 t.num.2).sign = sg at *
      cases q1 with
      | false =>
        rw [Bool.false_and] at hqq
        subst hqq
        simp only [go_sem]
        refine call_pure hI rfl ?_
        simp only [go_sem]
        by_cases c1 : t.op = 1
        · have g1 := decide_eq_true c1
          rw [show nodeB t = (decide (IsZ t.num) && decide (t.name = ByteArray.empty) && decide (t.sort = 2) && t.kids.isEmpty) from if_pos c1, hq1]
          generalize decide (t.name = ByteArray.empty) = q3 at *
          generalize t.kids.isEmpty = q4 at *
          simp only [go_sem, g1, cT_eq]
          refine call_pure hI rfl ?_
          simp only [go_sem]
        · have g1 := decide_eq_false c1
          by_cases c2 : t.op = 2 ∨ t.op = 3
          · rw [show nodeB t = (plainB t && decide (t.sort = 1) && t.kids.isEmpty) by unfold nodeB; rw [if_neg c1, if_pos c2]]
            rw [show plainB t = (decide (t.num = zzI) && decide (t.name = ByteArray.empty)) from rfl, ← hq0]
            generalize decide (t.name = ByteArray.empty) = q3 at *
            generalize t.kids.isEmpty = q4 at *
            have key : decide (t.op = 2) = true ∨ (decide (t.op = 2) = false ∧ decide (t.op = 3) = true) := by
              rcases c2 with c | c
              · exact .inl (decide_eq_true c)
              · exact .inr ⟨decide_eq_false (by omega), decide_eq_true c⟩
            rcases key with g2 | ⟨g2, g3⟩
            · cases q3 with
              | false => simp only [go_sem, g1, g2, str0, n0]
              | true =>
                cases c3 : decide (t.sort = 1) with
                | false => simp only [go_sem, g1, g2, str0, n0, c3]
                | true => simp only [go_sem, g1, g2, str0, n0, c3, k0]
            · cases q3 with
              | false => simp only [go_sem, g1, g2, g3, str0, n0]
              | true =>
                cases c3 : decide (t.sort = 1) with
                | false => simp only [go_sem, g1, g2, g3, str0, n0, c3]
                | true => simp only [go_sem, g1, g2, g3, str0, n0, c3, k0]
          · have g2 : decide (t.op = 2) = false := decide_eq_false (by omega)
            have g3 : decide (t.op = 3) = false := decide_eq_false (by omega)
            by_cases c4 : t.op = 4
            · have g4 := decide_eq_true c4
              rw [r_node_app hinv c1 c2 c4, ← hq0]
              simp only [go_sem, g1, g2, g3, g4]
            · have g4 := decide_eq_false c4
              rw [show nodeB t = (madeB t.op && plainB t && kidsB t.op t.kids.length && decide (wrongE t.op t.kids = 0) && decide (t.sort = sortR t.op t.kids)) by unfold nodeB; rw [if_neg c1, if_neg c2, if_neg c4]]
              rw [show plainB t = (decide (t.num = zzI) && decide (t.name = ByteArray.empty)) from rfl, ← hq0]
              generalize decide (t.name = ByteArray.empty) = q3 at *
              rw [Bool.false_and, Bool.and_false, Bool.false_and, Bool.false_and, Bool.false_and]
              simp only [go_sem, g1, g2, g3, g4]
              refine regA_by 0 rfl ?_
              simp only [go_sem, cT_eq]
      | true =>
        rw [Bool.true_and] at hqq
        subst hqq
        cases q with
        | false =>
          simp only [go_sem]
          refine call_pure hI rfl ?_
          simp only [go_sem]
          refine call_pure hSg rfl ?_
          simp only [go_sem, hq2]
          by_cases c1 : t.op = 1
          · have g1 := decide_eq_true c1
            rw [show nodeB t = (decide (IsZ t.num) && decide (t.name = ByteArray.empty) && decide (t.sort = 2) && t.kids.isEmpty) from if_pos c1, hq1]
            generalize decide (t.name = ByteArray.empty) = q3 at *
            generalize t.kids.isEmpty = q4 at *
            simp only [go_sem, g1, cT_eq]
            refine call_pure hI rfl ?_
            cases q3 with
            | false => simp only [go_sem, str0, n0]
            | true =>
              cases c3 : decide (t.sort = 2) with
              | false => simp only [go_sem, str0, n0, c3]
              | true => simp only [go_sem, str0, n0, c3, k0]
          · have g1 := decide_eq_false c1
            by_cases c2 : t.op = 2 ∨ t.op = 3
            · rw [show nodeB t = (plainB t && decide (t.sort = 1) && t.kids.isEmpty) by unfold nodeB; rw [if_neg c1, if_pos c2]]
              rw [show plainB t = (decide (t.num = zzI) && decide (t.name = ByteArray.empty)) from rfl, ← hq0]
              generalize decide (t.name = ByteArray.empty) = q3 at *
              generalize t.kids.isEmpty = q4 at *
              have key : decide (t.op = 2) = true ∨ (decide (t.op = 2) = false ∧ decide (t.op = 3) = true) := by
                rcases c2 with c | c
                · exact .inl (decide_eq_true c)
                · exact .inr ⟨decide_eq_false (by omega), decide_eq_true c⟩
              rcases key with g2 | ⟨g2, g3⟩
              · cases q3 with
                | false => simp only [go_sem, g1, g2, str0, n0]
                | true =>
                  cases c3 : decide (t.sort = 1) with
                  | false => simp only [go_sem, g1, g2, str0, n0, c3]
                  | true => simp only [go_sem, g1, g2, str0, n0, c3, k0]
              · cases q3 with
                | false => simp only [go_sem, g1, g2, g3, str0, n0]
                | true =>
                  cases c3 : decide (t.sort = 1) with
                  | false => simp only [go_sem, g1, g2, g3, str0, n0, c3]
                  | true => simp only [go_sem, g1, g2, g3, str0, n0, c3, k0]
            · have g2 : decide (t.op = 2) = false := decide_eq_false (by omega)
              have g3 : decide (t.op = 3) = false := decide_eq_false (by omega)
              by_cases c4 : t.op = 4
              · have g4 := decide_eq_true c4
                rw [r_node_app hinv c1 c2 c4, ← hq0]
                simp only [go_sem, g1, g2, g3, g4]
              · have g4 := decide_eq_false c4
                rw [show nodeB t = (madeB t.op && plainB t && kidsB t.op t.kids.length && decide (wrongE t.op t.kids = 0) && decide (t.sort = sortR t.op t.kids)) by unfold nodeB; rw [if_neg c1, if_neg c2, if_neg c4]]
                rw [show plainB t = (decide (t.num = zzI) && decide (t.name = ByteArray.empty)) from rfl, ← hq0]
                generalize decide (t.name = ByteArray.empty) = q3 at *
                rw [Bool.false_and, Bool.and_false, Bool.false_and, Bool.false_and, Bool.false_and]
                simp only [go_sem, g1, g2, g3, g4]
                refine regA_by 0 rfl ?_
                simp only [go_sem, cT_eq]
        | true =>
          simp only [go_sem]
          refine call_pure hI rfl ?_
          simp only [go_sem]
          refine call_pure hSg rfl ?_
          simp only [go_sem, hq2]
          by_cases c1 : t.op = 1
          · have g1 := decide_eq_true c1
            rw [show nodeB t = (decide (IsZ t.num) && decide (t.name = ByteArray.empty) && decide (t.sort = 2) && t.kids.isEmpty) from if_pos c1, hq1]
            generalize decide (t.name = ByteArray.empty) = q3 at *
            generalize t.kids.isEmpty = q4 at *
            simp only [go_sem, g1, cT_eq]
            refine call_pure hI rfl ?_
            cases q3 with
            | false => simp only [go_sem, str0, n0]
            | true =>
              cases c3 : decide (t.sort = 2) with
              | false => simp only [go_sem, str0, n0, c3]
              | true => simp only [go_sem, str0, n0, c3, k0]
          · have g1 := decide_eq_false c1
            by_cases c2 : t.op = 2 ∨ t.op = 3
            · rw [show nodeB t = (plainB t && decide (t.sort = 1) && t.kids.isEmpty) by unfold nodeB; rw [if_neg c1, if_pos c2]]
              rw [show plainB t = (decide (t.num = zzI) && decide (t.name = ByteArray.empty)) from rfl, ← hq0]
              generalize decide (t.name = ByteArray.empty) = q3 at *
              generalize t.kids.isEmpty = q4 at *
              have key : decide (t.op = 2) = true ∨ (decide (t.op = 2) = false ∧ decide (t.op = 3) = true) := by
                rcases c2 with c | c
                · exact .inl (decide_eq_true c)
                · exact .inr ⟨decide_eq_false (by omega), decide_eq_true c⟩
              rcases key with g2 | ⟨g2, g3⟩
              · cases q3 with
                | false => simp only [go_sem, g1, g2, str0, n0]
                | true =>
                  cases c3 : decide (t.sort = 1) with
                  | false => simp only [go_sem, g1, g2, str0, n0, c3]
                  | true => simp only [go_sem, g1, g2, str0, n0, c3, k0]
              · cases q3 with
                | false => simp only [go_sem, g1, g2, g3, str0, n0]
                | true =>
                  cases c3 : decide (t.sort = 1) with
                  | false => simp only [go_sem, g1, g2, g3, str0, n0, c3]
                  | true => simp only [go_sem, g1, g2, g3, str0, n0, c3, k0]
            · have g2 : decide (t.op = 2) = false := decide_eq_false (by omega)
              have g3 : decide (t.op = 3) = false := decide_eq_false (by omega)
              by_cases c4 : t.op = 4
              · have g4 := decide_eq_true c4
                rw [r_node_app hinv c1 c2 c4, ← hq0]
                have hsy := r8_Symbol t.name (by omega)
                generalize symB t.name = q5 at *
                simp only [go_sem, g1, g2, g3, g4]
                refine call_pure hsy rfl ?_
                cases q5 with
                | false => simp only [go_sem]
                | true =>
                  cases c5 : decide ((t.kids.length : Int) ≤ 3) with
                  | false => simp only [go_sem, c5]
                  | true =>
                    unfold sortB
                    cases c6 : decide (t.sort = 1) with
                    | true => simp only [go_sem, c5, c6]
                    | false => simp only [go_sem, c5, c6]
              · have g4 := decide_eq_false c4
                rw [show nodeB t = (madeB t.op && plainB t && kidsB t.op t.kids.length && decide (wrongE t.op t.kids = 0) && decide (t.sort = sortR t.op t.kids)) by unfold nodeB; rw [if_neg c1, if_neg c2, if_neg c4]]
                rw [show plainB t = (decide (t.num = zzI) && decide (t.name = ByteArray.empty)) from rfl, ← hq0]
                generalize decide (t.name = ByteArray.empty) = q3 at *
                rw [Bool.true_and]
                unfold madeB
                simp only [go_sem, g1, g2, g3, g4]
                cases q3 with
                | false =>
                  rw [Bool.and_false, Bool.false_and, Bool.false_and, Bool.false_and]
                  refine regA_by 0 rfl ?_
                  simp only [go_sem, cT_eq, str0, n0]
                | true =>
                  cases m1 : decide (5 ≤ t.op) with
                  | false =>
                    refine regA_by 0 rfl ?_
                    simp only [go_sem, cT_eq, str0, n0, m1]
                  | true =>
                    cases m2 : decide (t.op ≤ 22) with
                    | false =>
                      refine regA_by 0 rfl ?_
                      simp only [go_sem, cT_eq, str0, n0, m1, m2]
                    | true =>
                      have h3 := r_args t.op t.kids.length
                      cases m3 : kidsB t.op t.kids.length with
                      | false =>
                        rw [m3] at h3
                        refine regA_by 0 rfl ?_
                        simp only [go_sem, cT_eq, str0, n0, m1, m2]
                        refine call_pure h3 rfl ?_
                        simp only [go_sem]
                      | true =>
                        have h4 := r_check t.op t.kids (by omega) hF.smallK k4 m3
                        rw [chkE_zero (by omega)] at h4
                        have h5 := r_result t.op t.kids (of_decide_eq_true m1) (of_decide_eq_true m2) m3
                        rw [m3] at h3
                        generalize sortR t.op t.kids = sr at *
                        generalize wrongE t.op t.kids = we at *
                        cases m4 : decide (we = 0) with
                        | false =>
                          refine regA_by 0 rfl ?_
                          simp only [go_sem, cT_eq, str0, n0, m1, m2]
                          refine call_pure h3 rfl ?_
                          simp only [go_sem]
                          refine call_pure h4 rfl ?_
                          simp only [go_sem, m4]
                        | true =>
                          refine regA_by 0 rfl ?_
                          simp only [go_sem, cT_eq, str0, n0, m1, m2]
                          refine call_pure h3 rfl ?_
                          simp only [go_sem]
                          refine call_pure h4 rfl ?_
                          simp only [go_sem, m4]
                          refine call_pure h5 rfl ?_
                          simp only [go_sem]
end Go.Proofs.YtgnfgaioeldagaaGreat
