/- At every input the call answers true and leaves its arguments as they were; no conditions. -/
import Derived.Test.YtgnfgaioeldagaaGreatVe
set_option linter.unusedSimpArgs false
set_option linter.unusedVariables false
namespace Go.Proofs.YtgnfgaioeldagaaGreat
open Go Go.Abs
set_option maxHeartbeats 16000000
/-! ### The reference's structures -/
theorem veq (a b : VR) : decide (a = b) = (decide (a.1 = b.1) && decide (a.2.1 = b.2.1 ∧ a.2.2 = b.2.2)) := by
  obtain ⟨a1, a2, a3⟩ := a
  obtain ⟨b1, b2, b3⟩ := b
  rw [Bool.eq_iff_iff]
  simp only [decide_eq_true_eq, Bool.and_eq_true, Prod.mk.injEq]
set_option maxRecDepth 100000 in
theorem rv_Same (a b : VR) (ha : a.2.2.length < 30000000000000) (hb : b.2.2.length < 30000000000000) : PCall Tryz.prog 14 [gV a, gV b] (tB (decide (a = b))) := by
  refine pcall_of_wpA mixed Tryz.call14 Tryz.func14 rfl Tryz.ntmps14 Tryz.results14 (by simp) (by decide) ?_
  have h := i_Equal a.2.1 a.2.2 b.2.1 b.2.2 ha hb
  rw [veq]
  generalize decide (a.2.1 = b.2.1 ∧ a.2.2 = b.2.2) = q at *
  cases c : decide (a.1 = b.1) with
  | false => simp only [go_sem, c]
  | true =>
    simp only [go_sem, c]
    refine call_pure h rfl ?_
    simp only [go_sem]
set_option maxRecDepth 100000 in
theorem rv_SameArgs (a b : List VR) (ha : a.length < 1000000000) (hl : ∀ v ∈ a, limV v) (hl2 : ∀ v ∈ b, limV v) : PCall Tryz.prog 56 [tLV a, tLV b] (tB (decide (a = b))) := by
  refine pcall_of_wpA mixed Tryz.call56 Tryz.func56 rfl Tryz.ntmps56 Tryz.results56 (by simp) (by decide) ?_
  simp only [go_sem]
  refine CondR_if (fun hne => ?_) (fun he => ?_)
  · have : ¬ a = b := fun e => by subst e; exact hne rfl
    rw [decide_eq_false this]
    simp only [go_sem]
  · have hlen : a.length = b.length := by omega
    simp only [go_sem]
    refine loop_inv (fun i : Nat => stL 27 [(0, .one (.t (eL cV a))), (1, .one (.t (eL cV b))), (5, litI .i64 i)] []) (fun i => i ≤ a.length ∧ a.take i = b.take i) (fun i => a.length - i) 0 ?_ ⟨Nat.zero_le _, by simp⟩ ?_
    · (refine gstep_list rfl ?_ ?_ ?_ ?_ <;> (try simp only [go_sem, tail_one]) <;> (try simp))
    · rintro i ⟨hi, hinv⟩
      simp only [go_sem]
      refine CondR_if (fun hlt => ?_) (fun hge => ?_)
      · have hlt' : i < a.length := by omega
        have hlt2 : i < b.length := by omega
        have h1 : elemD cV a i = cV a[i] := elemD_lt hlt'
        have h2 : elemD cV b i = cV b[i] := elemD_lt hlt2
        have hs := take_succ_eq hlt' hlt2 hinv
        have hno : ¬ a[i] = b[i] → ¬ a = b := fun h e => h (by subst e; rfl)
        have hl3 : ((i : Int) < (b.length : Int)) = True := eq_true (by omega)
        have hc := rv_Same a[i] b[i] (by have := hl _ (List.getElem_mem hlt'); unfold limV at this; omega) (by have := hl2 _ (List.getElem_mem hlt2); unfold limV at this; omega)
        generalize a[i] = x at *
        generalize b[i] = y at *
        simp only [go_sem, h1, h2, hlt, hl3]
        refine regA_by 0 rfl ?_
        simp only [go_sem, h1, h2, hlt, hl3]
        (repeat (refine And.intro (by omega) ?_))
        refine call_pure hc rfl ?_
        by_cases he : x = y
        · rw [decide_eq_true he]
          simp only [go_sem]
          refine ⟨i + 1, ⟨hlt', hs.2 he⟩, (by show a.length - (i + 1) < a.length - i; omega), ?_⟩
          (refine gstep_list rfl ?_ ?_ ?_ ?_ <;> (try simp only [go_sem, tail_one, wrap_i64 (n := (i : Int) + 1) (by omega) (by omega)]) <;> (try simp))
        · rw [decide_eq_false he, decide_eq_false (hno he)]
          simp only [go_sem]
      · obtain rfl : i = a.length := by omega
        rw [List.take_length, hlen, List.take_length] at hinv
        rw [decide_eq_true hinv]
        simp only [go_sem]
set_option maxRecDepth 100000 in
theorem rv_Truth (b : Bool) : PCall Tryz.prog 93 [tB b] (gV (boolV b)) := by
  refine pcall_of_wpA mixed Tryz.call93 Tryz.func93 rfl Tryz.ntmps93 Tryz.results93 (by simp) (by decide) ?_
  have h := i_Of 1 (by decide) (by decide)
  cases b with
  | true =>
    simp only [go_sem]
    refine call_pure h rfl ?_
    simp only [go_sem]
    exact fz_Cs (.cons .t (.cons .t (.cons .t .nil)))
  | false =>
    simp only [go_sem]
    exact fz_Cs (.cons .t (.cons .t (.cons .weak .nil)))
set_option maxRecDepth 100000 in
theorem rv_Yes (v : VR) (hv : v.2.2.length < 1000000000) : PCall Tryz.prog 58 [gV v] (tB (yesV v)) := by
  refine pcall_of_wpA mixed Tryz.call58 Tryz.func58 rfl Tryz.ntmps58 Tryz.results58 (by simp) (by decide) ?_
  have h := i_Sign v.2.1 v.2.2 (by omega)
  have e : yesV v = !(decide ((iv v.2.1 v.2.2).sign = 0)) := by
    unfold yesV
    show decide (¬ iv v.2.1 v.2.2 = 0) = _
    by_cases z : iv v.2.1 v.2.2 = 0
    · rw [decide_eq_false (fun h => h z), decide_eq_true (Int.sign_eq_zero_iff_zero.2 z)]; rfl
    · rw [decide_eq_true z, decide_eq_false (fun h => z (Int.sign_eq_zero_iff_zero.1 h))]; rfl
  rw [e]
  generalize (iv v.2.1 v.2.2).sign = n at *
  simp only [go_sem]
  refine call_pure h rfl ?_
  simp only [go_sem, dne]
theorem one_enc {v : ZI} (h : IsZ v) : decide (v.1 = false ∧ v.2 = dig (Int.natAbs 1)) = decide (zv v = 1) := by
  refine decide_eq_decide.2 ⟨fun ⟨h1, h2⟩ => ?_, fun e => ?_⟩
  · have : v = encZ 1 := Prod.ext h1 h2
    rw [this, zv_enc]
  · have := enc_zv h
    rw [e] at this
    rw [← this]; exact ⟨rfl, rfl⟩
set_option maxRecDepth 100000 in
theorem rv_IsValue (v : VR) (sort : Int) (hv : v.2.2.length < 1000000000) (hs : sortB sort = true) : PCall Tryz.prog 47 [gV v, tI .i64 sort] (tB (ofV v sort)) := by
  refine pcall_of_wpA mixed Tryz.call47 Tryz.func47 rfl Tryz.ntmps47 Tryz.results47 (by simp) (by decide) ?_
  have h1 := i_Is v.2.1 v.2.2 (by omega)
  have h2 := i_Sign v.2.1 v.2.2 (by omega)
  have h3 := i_Of 1 (by decide) (by decide)
  have h4 := i_Equal v.2.1 v.2.2 false (dig (Int.natAbs 1)) (by omega) (by have : (dig (Int.natAbs 1)).length = lN 1 := rfl; have := lN_one; omega)
  have h1 : PCall Tryz.prog 85 [gI v.2.1 v.2.2] (tB (decide (IsZ v.2))) := h1
  have e : ofV v sort = (decide (v.1 = sort) && decide (IsZ v.2) && (decide (sort = 2) || decide ((iv v.2.1 v.2.2).sign = 0) || decide (zv v.2 = 1))) := by
    unfold ofV
    rw [hs, Bool.and_true]
    congr 2
    congr 1
    exact decide_eq_decide.2 Int.sign_eq_zero_iff_zero.symm
  rw [e]
  cases c1 : decide (v.1 = sort) with
  | false => simp only [go_sem, dne, c1]
  | true =>
    by_cases c2 : IsZ v.2
    · rw [decide_eq_true c2] at h1
      rw [one_enc c2] at h4
      rw [decide_eq_true c2]
      generalize (iv v.2.1 v.2.2).sign = sg at *
      generalize decide (zv v.2 = 1) = q3 at *
      simp only [go_sem, dne, c1]
      refine call_pure h1 rfl ?_
      cases c3 : decide (sort = 2) with
      | true =>
        simp only [go_sem]
        refine regA_by 0 rfl ?_
        simp only [go_sem, c3]
      | false =>
        simp only [go_sem]
        cases c4 : decide (sg = 0) with
        | true =>
          refine regA_by 0 rfl ?_
          simp only [go_sem, c3]
          refine call_pure h2 rfl ?_
          simp only [go_sem, c4]
        | false =>
          refine regA_by 0 rfl ?_
          simp only [go_sem, c3]
          refine call_pure h2 rfl ?_
          simp only [go_sem, c4]
          refine call_pure h3 rfl ?_
          simp only [go_sem]
          refine call_pure h4 rfl ?_
          simp only [go_sem]
    · rw [decide_eq_false c2] at h1
      rw [decide_eq_false c2]
      simp only [go_sem, dne, c1]
      refine call_pure h1 rfl ?_
      simp only [go_sem]
end Go.Proofs.YtgnfgaioeldagaaGreat
namespace Go.Proofs.YtgnfgaioeldagaaGreat
open Go Go.Abs
set_option maxHeartbeats 16000000
theorem sLe_not2 (a b : ByteArray) : (!(Op.bytesLess a.toList b.toList)) = !(sLt a b) := rfl
set_option maxRecDepth 100000 in
theorem rv_Is (m : List Fu) (hm : limM m) : PCall Tryz.prog 13 [tLF m] (tB (isM m)) := by
  refine pcall_of_wpA mixed Tryz.call13 Tryz.func13 rfl Tryz.ntmps13 Tryz.results13 (by simp) (by decide) ?_
  obtain ⟨hml, hmf⟩ := hm
  simp only [go_sem]
  refine loop_inv (fun i : Nat => stL 104 [(0, .one (.t (eL cFu m))), (3, litI .i64 i)] []) (fun i => i ≤ m.length ∧ isMi m i = true) (fun i => m.length - i) 0 ?_ ⟨Nat.zero_le _, isMi_zero m⟩ ?_
  · (refine gstep_list rfl ?_ ?_ ?_ ?_ <;> (try simp only [go_sem, tail_one]) <;> (try simp))
  · rintro i ⟨hi, hinv⟩
    simp only [go_sem]
    refine CondR_if (fun hlt => ?_) (fun hge => ?_)
    · have hlt' : i < m.length := by omega
      have hel : elemD cFu m i = cFu m[i] := elemD_lt hlt'
      obtain ⟨l1, l2, l3, l4, l5⟩ := hmf _ (List.getElem_mem hlt')
      have hno := isM_no1 hlt'
      have hnx : ∃ q : Bool, (i = 0 → q = true) ∧ (∀ j (e : i = j + 1), q = sLt (m[j]'(by omega)).1.1 m[i].1.1) ∧ isMi m (i + 1) = (funB m[i] && q) ∧ (q = false → isM m = false) := by
        cases i with
        | zero => exact ⟨true, fun _ => rfl, fun j e => by omega, by rw [isMi_one hlt', Bool.and_true], fun h => by cases h⟩
        | succ j =>
          refine ⟨sLt m[j].1.1 m[j + 1].1.1, fun e => by omega, fun j2 e => ?_, ?_, isM_no2 hlt'⟩
          · obtain rfl : j = j2 := by omega
            rfl
          · rw [isMi_succ hlt', hinv, Bool.true_and]
      obtain ⟨q, hq0, hq1, hq2, hq3⟩ := hnx
      have h1 := r_IsSig m[i].1 l1 (by omega)
      have hsg : sigB m[i].1 = true → (∀ s ∈ m[i].1.2.1, sortB s = true) ∧ sortB m[i].1.2.2 = true := fun h => by
        unfold sigB at h
        simp only [Bool.and_eq_true] at h
        exact ⟨fun s hs => List.all_eq_true.1 h.1.1.1 s hs, h.2⟩
      have ef : funB m[i] = (sigB m[i].1 && ofV m[i].2.2 m[i].1.2.2 && m[i].2.1.all (rowB m[i].1)) := rfl
      have hprev : ∀ j (e : i = j + 1), elemD cFu m j = cFu (m[j]'(by omega)) := fun j e => elemD_lt (by omega)
      have hlq : ∀ j (e : i = j + 1), Op.bytesLess (m[j]'(by omega)).1.1.toList m[i].1.1.toList = q := fun j e => (hq1 j e).symm
      generalize hf : m[i] = f at *
      cases b1c : sigB f.1 with
      | false =>
        rw [b1c] at h1
        rw [hno (by rw [ef, b1c]; rfl)]
        simp only [go_sem, hel]
        (repeat (refine And.intro (by omega) ?_))
        refine regA_by 0 rfl ?_
        simp only [go_sem]
        refine call_pure h1 rfl ?_
        simp only [go_sem]
      | true =>
        rw [b1c] at h1
        obtain ⟨s1, s2⟩ := hsg b1c
        have h2 := rv_IsValue f.2.2 f.1.2.2 l5 s2
        generalize hb2 : ofV f.2.2 f.1.2.2 = b2 at *
        by_cases h0 : i = 0
        · have g0 : decide ((0 : Int) < (i : Int)) = false := decide_eq_false (by omega)
          have hq := hq0 h0
          subst hq
          simp only [go_sem, hel]
          (repeat (refine And.intro (by omega) ?_))
          refine regA_by 0 rfl ?_
          simp only [go_sem]
          refine call_pure h1 rfl ?_
          simp only [go_sem, g0]
          refine call_pure h2 rfl ?_
          cases b2 with
          | false =>
            rw [hno (by rw [ef, b1c]; rfl)]
            simp only [go_sem]
          | true =>
            simp only [go_sem]
            refine loop_inv (fun k : Nat => stL 104 [(0, .one (.t (eL cFu m))), (3, litI .i64 i), (4, .one (.ptr 4 0)), (5, litI .i64 k)] [(4, (cFu f).map .t)])
              (fun k => k ≤ f.2.1.length ∧ (f.2.1.take k).all (rowB f.1) = true) (fun k => f.2.1.length - k) 0 ?_ ⟨Nat.zero_le _, by simp⟩ ?_
            · (refine gstep_list rfl ?_ ?_ ?_ ?_ <;> (try simp only [go_sem, tail_one]) <;> (try simp))
            · rintro k ⟨hk, hkv⟩
              simp only [go_sem]
              refine CondR_if (fun klt => ?_) (fun kge => ?_)
              · have klt' : k < f.2.1.length := by omega
                have kel : elemD cRw f.2.1 k = cRw f.2.1[k] := elemD_lt klt'
                obtain ⟨q1, q2, q3⟩ := l4 _ (List.getElem_mem klt')
                have ks := all_take_succ (p := rowB f.1) klt'
                have kno := all_no (p := rowB f.1) klt'
                have h3 := rv_IsValue f.2.1[k].2 f.1.2.2 q3 s2
                have er : rowB f.1 f.2.1[k] = (argsB f.2.1[k].1 f.1.2.1 && ofV f.2.1[k].2 f.1.2.2) := rfl
                have hbad : rowB f.1 f.2.1[k] = false → isM m = false := fun h => hno (by rw [ef, kno h, Bool.and_false])
                generalize f.2.1[k] = r at *
                have klt2 : ((k : Int) < (f.2.1.length : Int)) = True := eq_true (by omega)
                by_cases hlen : r.1.length = f.1.2.1.length
                · have f1 : decide ((r.1.length : Int) = (f.1.2.1.length : Int)) = true := decide_eq_true (by omega)
                  simp only [go_sem, kel, klt2]
                  refine regA_by 0 rfl ?_
                  simp only [go_sem, kel, klt2, dne, f1]
                  (repeat (refine And.intro (by omega) ?_))
                  refine call_pure h3 rfl ?_
                  cases b3c : ofV r.2 f.1.2.2 with
                  | false =>
                    rw [hbad (by rw [er, b3c, Bool.and_false])]
                    simp only [go_sem]
                  | true =>
                    simp only [go_sem]
                    refine loop_inv (fun n : Nat => stL 104 [(0, .one (.t (eL cFu m))), (3, litI .i64 i), (4, .one (.ptr 4 0)), (5, litI .i64 k), (6, litI .i64 n)] [(4, (cFu f).map .t)])
                      (fun n => n ≤ r.1.length ∧ argsB (r.1.take n) (f.1.2.1.take n) = true) (fun n => r.1.length - n) 0 ?_ ⟨Nat.zero_le _, by simp [argsB]⟩ ?_
                    · (refine gstep_list rfl ?_ ?_ ?_ ?_ <;> (try simp only [go_sem, tail_one]) <;> (try simp))
                    · rintro n ⟨hn, hnv⟩
                      simp only [go_sem]
                      refine CondR_if (fun nlt => ?_) (fun nge => ?_)
                      · have nlt' : n < r.1.length := by omega
                        have nlt2 : n < f.1.2.1.length := by omega
                        have n1 : elemD cV r.1 n = cV r.1[n] := elemD_lt nlt'
                        have n2 : elemD cInt f.1.2.1 n = cInt f.1.2.1[n] := elemD_lt nlt2
                        have nsx := argsB_succ nlt' nlt2
                        have nno := argsB_no nlt' nlt2
                        have nl1 : ((n : Int) < (r.1.length : Int)) = True := eq_true (by omega)
                        have nl2 : ((n : Int) < (f.1.2.1.length : Int)) = True := eq_true (by omega)
                        have hx := rv_IsValue r.1[n] f.1.2.1[n] (q2 _ (List.getElem_mem nlt')) (s1 _ (List.getElem_mem nlt2))
                        generalize r.1[n] = x at *
                        generalize f.1.2.1[n] = y at *
                        simp only [go_sem, kel, klt2, n1, n2, nl1, nl2]
                        refine regA_by 0 rfl ?_
                        simp only [go_sem, kel, klt2, n1, n2, nl1, nl2]
                        (repeat (refine And.intro (by omega) ?_))
                        refine call_pure hx rfl ?_
                        cases c2 : ofV x y with
                        | false =>
                          rw [hbad (by rw [er, nno c2]; rfl)]
                          simp only [go_sem]
                        | true =>
                          simp only [go_sem]
                          refine ⟨n + 1, ⟨nlt', by rw [nsx, hnv, c2]; rfl⟩, (by show r.1.length - (n + 1) < r.1.length - n; omega), ?_⟩
                          (refine gstep_list rfl ?_ ?_ ?_ ?_ <;> (try simp only [go_sem, tail_one, wrap_i64 (n := (n : Int) + 1) (by omega) (by omega)]) <;> (try simp))
                      · obtain rfl : n = r.1.length := by omega
                        rw [List.take_length, hlen, List.take_length] at hnv
                        simp only [go_sem]
                        refine ⟨k + 1, ⟨klt', by rw [ks, hkv, er, hnv, b3c]; rfl⟩, (by show f.2.1.length - (k + 1) < f.2.1.length - k; omega), ?_⟩
                        (refine gstep_list rfl ?_ ?_ ?_ ?_ <;> (try simp only [go_sem, tail_one, wrap_i64 (n := (k : Int) + 1) (by omega) (by omega)]) <;> (try simp))
                · have f1 : decide ((r.1.length : Int) = (f.1.2.1.length : Int)) = false := decide_eq_false (by omega)
                  have e2 : argsB r.1 f.1.2.1 = false := by
                    cases c : argsB r.1 f.1.2.1 with
                    | false => rfl
                    | true => exact (hlen (argsB_len c)).elim
                  rw [hbad (by rw [er, e2]; rfl)]
                  simp only [go_sem, kel, klt2]
                  refine regA_by 0 rfl ?_
                  simp only [go_sem, kel, klt2, dne, f1]
                  try omega
              · obtain rfl : k = f.2.1.length := by omega
                rw [List.take_length] at hkv
                simp only [go_sem]
                refine ⟨i + 1, ⟨hlt', by rw [hq2, ef, b1c, hkv]; rfl⟩, (by show m.length - (i + 1) < m.length - i; omega), ?_⟩
                (refine gstep_list rfl ?_ ?_ ?_ ?_ <;> (try simp only [go_sem, tail_one, wrap_i64 (n := (i : Int) + 1) (by omega) (by omega)]) <;> (try simp))
        · obtain ⟨j, hj⟩ : ∃ j, i = j + 1 := ⟨i - 1, by omega⟩
          have g0 : decide ((0 : Int) < (i : Int)) = true := decide_eq_true (by omega)
          have hp := hprev j hj
          have hl := hlq j hj
          have e1 : IntKind.i64.wrap ((i : Int) - 1) = (j : Int) := by rw [wrap_i64 (by omega) (by omega)]; omega
          have e2 : ((j : Int) < (m.length : Int)) = True := eq_true (by omega)
          generalize m[j]'(by omega) = g at *
          simp only [go_sem, hel]
          (repeat (refine And.intro (by omega) ?_))
          refine regA_by 0 rfl ?_
          simp only [go_sem]
          refine call_pure h1 rfl ?_
          cases q with
          | false =>
            rw [hq3 rfl]
            simp only [go_sem, g0, e1, e2, hp, hl]
            omega
          | true =>
            simp only [go_sem, g0, e1, e2, hp, hl]
            (repeat (refine And.intro (by omega) ?_))
            refine call_pure h2 rfl ?_
            cases b2 with
            | false =>
              rw [hno (by rw [ef, b1c]; rfl)]
              simp only [go_sem]
            | true =>
              simp only [go_sem]
              refine loop_inv (fun k : Nat => stL 104 [(0, .one (.t (eL cFu m))), (3, litI .i64 i), (4, .one (.ptr 4 0)), (5, litI .i64 k)] [(4, (cFu f).map .t)])
                (fun k => k ≤ f.2.1.length ∧ (f.2.1.take k).all (rowB f.1) = true) (fun k => f.2.1.length - k) 0 ?_ ⟨Nat.zero_le _, by simp⟩ ?_
              · (refine gstep_list rfl ?_ ?_ ?_ ?_ <;> (try simp only [go_sem, tail_one]) <;> (try simp))
              · rintro k ⟨hk, hkv⟩
                simp only [go_sem]
                refine CondR_if (fun klt => ?_) (fun kge => ?_)
                · have klt' : k < f.2.1.length := by omega
                  have kel : elemD cRw f.2.1 k = cRw f.2.1[k] := elemD_lt klt'
                  obtain ⟨q1, q2, q3⟩ := l4 _ (List.getElem_mem klt')
                  have ks := all_take_succ (p := rowB f.1) klt'
                  have kno := all_no (p := rowB f.1) klt'
                  have h3 := rv_IsValue f.2.1[k].2 f.1.2.2 q3 s2
                  have er : rowB f.1 f.2.1[k] = (argsB f.2.1[k].1 f.1.2.1 && ofV f.2.1[k].2 f.1.2.2) := rfl
                  have hbad : rowB f.1 f.2.1[k] = false → isM m = false := fun h => hno (by rw [ef, kno h, Bool.and_false])
                  generalize f.2.1[k] = r at *
                  have klt2 : ((k : Int) < (f.2.1.length : Int)) = True := eq_true (by omega)
                  by_cases hlen : r.1.length = f.1.2.1.length
                  · have f1 : decide ((r.1.length : Int) = (f.1.2.1.length : Int)) = true := decide_eq_true (by omega)
                    simp only [go_sem, kel, klt2]
                    refine regA_by 0 rfl ?_
                    simp only [go_sem, kel, klt2, dne, f1]
                    (repeat (refine And.intro (by omega) ?_))
                    refine call_pure h3 rfl ?_
                    cases b3c : ofV r.2 f.1.2.2 with
                    | false =>
                      rw [hbad (by rw [er, b3c, Bool.and_false])]
                      simp only [go_sem]
                    | true =>
                      simp only [go_sem]
                      refine loop_inv (fun n : Nat => stL 104 [(0, .one (.t (eL cFu m))), (3, litI .i64 i), (4, .one (.ptr 4 0)), (5, litI .i64 k), (6, litI .i64 n)] [(4, (cFu f).map .t)])
                        (fun n => n ≤ r.1.length ∧ argsB (r.1.take n) (f.1.2.1.take n) = true) (fun n => r.1.length - n) 0 ?_ ⟨Nat.zero_le _, by simp [argsB]⟩ ?_
                      · (refine gstep_list rfl ?_ ?_ ?_ ?_ <;> (try simp only [go_sem, tail_one]) <;> (try simp))
                      · rintro n ⟨hn, hnv⟩
                        simp only [go_sem]
                        refine CondR_if (fun nlt => ?_) (fun nge => ?_)
                        · have nlt' : n < r.1.length := by omega
                          have nlt2 : n < f.1.2.1.length := by omega
                          have n1 : elemD cV r.1 n = cV r.1[n] := elemD_lt nlt'
                          have n2 : elemD cInt f.1.2.1 n = cInt f.1.2.1[n] := elemD_lt nlt2
                          have nsx := argsB_succ nlt' nlt2
                          have nno := argsB_no nlt' nlt2
                          have nl1 : ((n : Int) < (r.1.length : Int)) = True := eq_true (by omega)
                          have nl2 : ((n : Int) < (f.1.2.1.length : Int)) = True := eq_true (by omega)
                          have hx := rv_IsValue r.1[n] f.1.2.1[n] (q2 _ (List.getElem_mem nlt')) (s1 _ (List.getElem_mem nlt2))
                          generalize r.1[n] = x at *
                          generalize f.1.2.1[n] = y at *
                          simp only [go_sem, kel, klt2, n1, n2, nl1, nl2]
                          refine regA_by 0 rfl ?_
                          simp only [go_sem, kel, klt2, n1, n2, nl1, nl2]
                          (repeat (refine And.intro (by omega) ?_))
                          refine call_pure hx rfl ?_
                          cases c2 : ofV x y with
                          | false =>
                            rw [hbad (by rw [er, nno c2]; rfl)]
                            simp only [go_sem]
                          | true =>
                            simp only [go_sem]
                            refine ⟨n + 1, ⟨nlt', by rw [nsx, hnv, c2]; rfl⟩, (by show r.1.length - (n + 1) < r.1.length - n; omega), ?_⟩
                            (refine gstep_list rfl ?_ ?_ ?_ ?_ <;> (try simp only [go_sem, tail_one, wrap_i64 (n := (n : Int) + 1) (by omega) (by omega)]) <;> (try simp))
                        · obtain rfl : n = r.1.length := by omega
                          rw [List.take_length, hlen, List.take_length] at hnv
                          simp only [go_sem]
                          refine ⟨k + 1, ⟨klt', by rw [ks, hkv, er, hnv, b3c]; rfl⟩, (by show f.2.1.length - (k + 1) < f.2.1.length - k; omega), ?_⟩
                          (refine gstep_list rfl ?_ ?_ ?_ ?_ <;> (try simp only [go_sem, tail_one, wrap_i64 (n := (k : Int) + 1) (by omega) (by omega)]) <;> (try simp))
                  · have f1 : decide ((r.1.length : Int) = (f.1.2.1.length : Int)) = false := decide_eq_false (by omega)
                    have e2 : argsB r.1 f.1.2.1 = false := by
                      cases c : argsB r.1 f.1.2.1 with
                      | false => rfl
                      | true => exact (hlen (argsB_len c)).elim
                    rw [hbad (by rw [er, e2]; rfl)]
                    simp only [go_sem, kel, klt2]
                    refine regA_by 0 rfl ?_
                    simp only [go_sem, kel, klt2, dne, f1]
                    try omega
                · obtain rfl : k = f.2.1.length := by omega
                  rw [List.take_length] at hkv
                  simp only [go_sem]
                  refine ⟨i + 1, ⟨hlt', by rw [hq2, ef, b1c, hkv]; rfl⟩, (by show m.length - (i + 1) < m.length - i; omega), ?_⟩
                  (refine gstep_list rfl ?_ ?_ ?_ ?_ <;> (try simp only [go_sem, tail_one, wrap_i64 (n := (i : Int) + 1) (by omega) (by omega)]) <;> (try simp))
    · obtain rfl : i = m.length := by omega
      rw [isMi_all] at hinv
      rw [hinv]
      simp only [go_sem]
end Go.Proofs.YtgnfgaioeldagaaGreat
namespace Go.Proofs.YtgnfgaioeldagaaGreat
open Go Go.Abs
set_option maxHeartbeats 16000000
set_option maxRecDepth 100000 in
theorem rv_May (m : List Fu) (hm : limM m) : PCall Tryz.prog 53 [tLF m] (tLF (heldM m)) := by
  refine pcall_of_wpA mixed Tryz.call53 Tryz.func53 rfl Tryz.ntmps53 Tryz.results53 (by simp) (by decide) ?_
  have h := rv_Is m hm
  unfold heldM
  cases c : isM m with
  | true =>
    rw [c] at h
    simp only [go_sem]
    refine call_pure h rfl ?_
    simp only [go_sem]
    exact fz_eL
  | false =>
    rw [c] at h
    simp only [go_sem]
    refine call_pure h rfl ?_
    simp only [go_sem]
    exact fz_nil
set_option maxRecDepth 100000 in
theorem rv_Of (x : List Fu) (s : Sg) (l : List VR) (hm : limM x) (hs : s.2.1.length < 1000000000) (hl : ∀ v ∈ l, limV v) : PCall Tryz.prog 18 [tLF x, gSg s, tLV l] (gV (appF s l (heldM x))) := by
  refine pcall_of_wpA mixed Tryz.call18 Tryz.func18 rfl Tryz.ntmps18 Tryz.results18 (by simp) (by decide) ?_
  have hM := rv_May x hm
  obtain ⟨hml, hmf⟩ := limM_held hm
  generalize heldM x = m at *
  obtain ⟨R, hR⟩ : ∃ R, R = appF s l m := ⟨_, rfl⟩
  rw [← hR]
  obtain ⟨nm, ss, rt⟩ := s
  have hs : ss.length < 1000000000 := hs
  simp only [go_sem]
  refine call_pure hM rfl ?_
  simp only [go_sem]
  refine loop_inv (fun i : Nat => stL 64 [(2, .one (.t (eL cV l))), (4, .one (.ptr 4 0)), (6, .one (.ptr 6 0)), (7, .one (.t (eL cFu m))), (8, litI .i64 i)] [(4, [.t (.lit (.string nm)), .t (eL cInt ss), .t (.lit (.int .i64 rt))]), (6, [.t (.lit (.int .i64 0)), .t (.lit (.bool false)), .t (.seq (some true) [])])])
    (fun i => i ≤ m.length ∧ R = appF (nm, ss, rt) l (m.drop i)) (fun i => m.length - i) 0 ?_ ⟨Nat.zero_le _, by rw [List.drop_zero]; exact hR⟩ ?_
  · (refine gstep_list rfl ?_ ?_ ?_ ?_ <;> (try simp only [go_sem, tail_one]) <;> (try simp))
  · rintro i ⟨hi, hinv⟩
    simp only [go_sem]
    refine CondR_if (fun hlt => ?_) (fun hge => ?_)
    · have hlt' : i < m.length := by omega
      have hel : elemD cFu m i = cFu m[i] := elemD_lt hlt'
      obtain ⟨l1, l2, l3, l4, l5⟩ := hmf _ (List.getElem_mem hlt')
      have hsk := @appF_skip (nm, ss, rt) l m i hlt'
      have hht := @appF_hit (nm, ss, rt) l m i hlt'
      have h1 := r_SameSig m[i].1 (nm, ss, rt) (by omega)
      have ilt : ((i : Int) < (m.length : Int)) = True := eq_true (by omega)
      generalize m[i] = f at *
      simp only [go_sem, hel, ilt]
      refine regA_by 0 rfl ?_
      simp only [go_sem, hel, ilt]
      (repeat (refine And.intro (by omega) ?_))
      refine call_pure h1 rfl ?_
      by_cases he : f.1 = (nm, ss, rt)
      · rw [decide_eq_true he]
        rw [hht he] at hinv
        simp only [go_sem]
        refine loop_inv (fun k : Nat => stL 64 [(2, .one (.t (eL cV l))), (6, .one (.ptr 6 0)), (7, .one (.t (eL cFu m))), (8, litI .i64 i), (9, litI .i64 k)] [(6, [.t (.lit (.int .i64 0)), .t (.lit (.bool false)), .t (.seq (some true) [])])])
          (fun k => k ≤ f.2.1.length ∧ R = rowF l f.2.2 (f.2.1.drop k)) (fun k => f.2.1.length - k) 0 ?_ ⟨Nat.zero_le _, by rw [List.drop_zero]; exact hinv⟩ ?_
        · (refine gstep_list rfl ?_ ?_ ?_ ?_ <;> (try simp only [go_sem, tail_one]) <;> (try simp))
        · rintro k ⟨hk, hkv⟩
          simp only [go_sem, hel, ilt]
          (repeat (refine And.intro (by omega) ?_))
          refine CondR_if (fun klt => ?_) (fun kge => ?_)
          · have klt' : k < f.2.1.length := by omega
            have kel : elemD cRw f.2.1 k = cRw f.2.1[k] := elemD_lt klt'
            obtain ⟨q1, q2, q3⟩ := l4 _ (List.getElem_mem klt')
            have ksk := @rowF_skip l f.2.2 f.2.1 k klt'
            have kht := @rowF_hit l f.2.2 f.2.1 k klt'
            have h2 := rv_SameArgs f.2.1[k].1 l q1 q2 hl
            have klt2 : ((k : Int) < (f.2.1.length : Int)) = True := eq_true (by omega)
            generalize f.2.1[k] = r at *
            simp only [go_sem, hel, ilt, kel, klt2]
            (repeat (refine And.intro (by omega) ?_))
            refine call_pure h2 rfl ?_
            by_cases he2 : r.1 = l
            · rw [decide_eq_true he2]
              rw [kht he2] at hkv
              rw [hkv]
              simp only [go_sem, hel, ilt, kel, klt2]
              (repeat (refine And.intro (by omega) ?_))
              exact fz_Cs (.cons .t (.cons .t (.cons .t .nil)))
            · rw [decide_eq_false he2]
              simp only [go_sem]
              refine ⟨k + 1, ⟨klt', by rw [hkv, ksk he2]⟩, (by show f.2.1.length - (k + 1) < f.2.1.length - k; omega), ?_⟩
              (refine gstep_list rfl ?_ ?_ ?_ ?_ <;> (try simp only [go_sem, tail_one, wrap_i64 (n := (k : Int) + 1) (by omega) (by omega)]) <;> (try simp))
          · obtain rfl : k = f.2.1.length := by omega
            rw [List.drop_length] at hkv
            rw [hkv]
            simp only [go_sem, hel, ilt]
            (repeat (refine And.intro (by omega) ?_))
            exact fz_Cs (.cons .t (.cons .t (.cons .t .nil)))
      · rw [decide_eq_false he]
        simp only [go_sem]
        refine ⟨i + 1, ⟨hlt', by rw [hinv, hsk he]⟩, (by show m.length - (i + 1) < m.length - i; omega), ?_⟩
        (refine gstep_list rfl ?_ ?_ ?_ ?_ <;> (try simp only [go_sem, tail_one, wrap_i64 (n := (i : Int) + 1) (by omega) (by omega)]) <;> (try simp))
    · obtain rfl : i = m.length := by omega
      rw [List.drop_length] at hinv
      rw [hinv]
      simp only [go_sem]
      exact fz_Cs (.cons .t (.cons .t (.cons .weak .nil)))
end Go.Proofs.YtgnfgaioeldagaaGreat
namespace Go.Proofs.YtgnfgaioeldagaaGreat
open Go Go.Abs
set_option maxHeartbeats 16000000
set_option maxRecDepth 100000 in
theorem rv_number (op : Int) (l : List VR) (hop : op = 13 ∨ op = 14 ∨ op = 15 ∨ op = 16 ∨ op = 17 ∨ op = 18) (hk : kidsB op l.length = true) (hl : sumL l < 1000000000) : PCall Tryz.prog 95 [tI .i64 op, tLV l] (gI (numV op l).1 (numV op l).2) := by
  refine pcall_of_wpA mixed Tryz.call95 Tryz.func95 rfl Tryz.ntmps95 Tryz.results95 (by simp) (by decide) ?_
  by_cases c18 : op = 18
  · subst c18
    obtain ⟨v, rfl⟩ := len1 (l := l) (by simpa [kidsB] using hk)
    have g0 : elemD cV [v] 0 = cV v := rfl
    simp only [sumL] at hl
    have h := i_Abs v.2.1 v.2.2 (by omega)
    show wpA _ _ (retQ _ _ (gI (encZ ((zv v.2).natAbs : Int)).1 (encZ ((zv v.2).natAbs : Int)).2)) _
    simp only [go_sem, g0]
    refine call_pure h rfl ?_
    simp only [go_sem]
    exact fz_Cs (.cons .t (.cons .t .nil))
  · by_cases c3 : op = 15 ∨ op = 16 ∨ op = 17
    · obtain ⟨a, b, rfl⟩ := len2 (l := l) (by rcases c3 with rfl | rfl | rfl <;> simpa [kidsB] using hk)
      have g0 : elemD cV [a, b] 0 = cV a := rfl
      have g1 : elemD cV [a, b] 1 = cV b := rfl
      simp only [sumL] at hl
      rcases c3 with rfl | rfl | rfl
      · have h := i_Mul a.2.1 a.2.2 b.2.1 b.2.2 (by omega) (by omega)
        show wpA _ _ (retQ _ _ (gI (encZ (zv a.2 * zv b.2)).1 (encZ (zv a.2 * zv b.2)).2)) _
        simp only [go_sem, g0, g1]
        refine regA_by 0 rfl ?_
        simp only [go_sem, g0, g1]
        refine call_pure h rfl ?_
        simp only [go_sem]
        exact fz_Cs (.cons .t (.cons .t .nil))
      · have h := i_Euclid a.2.1 a.2.2 b.2.1 b.2.2 (by omega) (by omega)
        show wpA _ _ (retQ _ _ (gI (encZ (zv a.2 / zv b.2)).1 (encZ (zv a.2 / zv b.2)).2)) _
        simp only [go_sem, g0, g1]
        refine regA_by 0 rfl ?_
        simp only [go_sem, g0, g1]
        refine call_pure h rfl ?_
        simp only [go_sem]
        exact fz_Cs (.cons .t (.cons .t .nil))
      · have h := i_Euclid a.2.1 a.2.2 b.2.1 b.2.2 (by omega) (by omega)
        show wpA _ _ (retQ _ _ (gI (encZ (zv a.2 % zv b.2)).1 (encZ (zv a.2 % zv b.2)).2)) _
        simp only [go_sem, g0, g1]
        refine regA_by 0 rfl ?_
        simp only [go_sem, g0, g1]
        refine call_pure h rfl ?_
        simp only [go_sem]
        exact fz_Cs (.cons .t (.cons .t .nil))
    · have hop : op = 13 ∨ op = 14 := by omega
      have hne : l ≠ [] := by
        intro e; subst e
        have := kidsB_pos hk; simp at this
      obtain ⟨v, l', rfl⟩ : ∃ v l', l = v :: l' := by
        cases l with
        | nil => exact (hne rfl).elim
        | cons v l' => exact ⟨v, l', rfl⟩
      have hll : l'.length < 1000000000 := by
        have len : ∀ l : List VR, l.length ≤ sumL l := fun l => by
          induction l with
          | nil => simp
          | cons x l ih => rw [sumL, List.length_cons]; omega
        have := len l'
        rw [sumL] at hl; omega
      rw [sumL] at hl
      have e0 : atV (v :: l') 0 = v := rfl
      have g0 : elemD cV (v :: l') 0 = cV v := rfl
      have hz := lN_zv v.2
      have f18 := decide_eq_false c18
      have f15 : decide (op = 15) = false := decide_eq_false (by omega)
      have f16 : decide (op = 16) = false := decide_eq_false (by omega)
      have f17 : decide (op = 17) = false := decide_eq_false (by omega)
      by_cases c2 : op = 14 ∧ l' = []
      · obtain ⟨c2, rfl⟩ := c2
        have f2 := decide_eq_true c2
        have h := i_Neg v.2.1 v.2.2 (by omega)
        have e : numV op [v] = encZ (-(zv v.2)) := by unfold numV; rw [if_neg c18, if_pos ⟨c2, rfl⟩]; rfl
        rw [e]
        simp only [go_sem, g0, f18, f15, f16, f17, f2]
        refine call_pure h rfl ?_
        simp only [go_sem]
        exact fz_Cs (.cons .t (.cons .t .nil))
      · obtain ⟨F, hF⟩ : ∃ F : Nat → Int, F = fun i => foldN op (zv v.2) (l'.take i) := ⟨_, rfl⟩
        obtain ⟨G, hG⟩ : ∃ G : Nat → ZI, G = fun i => if i = 0 then v.2 else encZ (F i) := ⟨_, rfl⟩
        have hG0 : G 0 = v.2 := by rw [hG]; rfl
        have hGs : ∀ i, G (i + 1) = encZ (F (i + 1)) := fun i => by rw [hG]; rfl
        have hGz : ∀ i, zv (G i) = F i := fun i => by
          cases i with
          | zero => rw [hG0, hF]; rfl
          | succ i => rw [hGs, zv_enc]
        have hFl : ∀ i, lN (F i) ≤ lN (zv v.2) + sumL l' := fun i => by
          rw [hF]
          have h1 := lN_fold op (l'.take i) (zv v.2)
          have h2 := sumL_take l' i
          show lN (foldN op (zv v.2) (l'.take i)) ≤ _
          omega
        have hGl : ∀ i, (G i).2.length ≤ v.2.2.length + sumL l' := fun i => by
          cases i with
          | zero => rw [hG0]; omega
          | succ i => rw [hGs, enc_len]; have := hFl (i + 1); omega
        have hR : numV op (v :: l') = G l'.length := by
          cases hl0 : l' with
          | nil =>
            subst hl0
            unfold numV
            rw [if_neg c18, if_neg (fun h => c2 ⟨h.1, rfl⟩), if_pos (show [v].length = 1 from rfl), e0]; exact hG0.symm
          | cons x l2 =>
            subst hl0
            unfold numV
            rw [if_neg c18, if_neg (fun h => by have := h.2; simp at this), if_neg (by simp), e0]
            show encZ (foldN op (zv v.2) (x :: l2)) = G (l2.length + 1)
            rw [hGs, hF]
            congr 2
            show x :: l2 = (x :: l2).take (l2.length + 1)
            rw [List.take_of_length_le (by simp)]
        rw [hR]
        have f2 : (decide (op = 14) && decide ((l'.length : Int) + 1 = 1)) = false := by
          rw [Bool.and_eq_false_iff]
          by_cases c : op = 14
          · right
            refine decide_eq_false fun h => c2 ⟨c, ?_⟩
            exact List.length_eq_zero_iff.1 (by omega)
          · exact .inl (decide_eq_false c)
        have hel2 : ∀ i (h : i < l'.length), elemD cV (v :: l') (i + 1) = cV l'[i] := fun i h => by
          have : elemD cV (v :: l') (i + 1) = cV ((v :: l')[i + 1]'(by rw [List.length_cons]; omega)) := elemD_lt (by rw [List.length_cons]; omega)
          rw [this]; rfl
        cases c14 : decide (op = 14) with
        | false =>
          have c13 : op = 13 := by
            rcases hop with h | h
            · exact h
            · exact (of_decide_eq_false c14 h).elim
          have f13 := decide_eq_true c13
          have hst : ∀ a b : Int, stepN op a b = a + b := fun a b => if_pos c13
          simp only [go_sem, g0, f18, f15, f16, f17, c14]
          refine loop_inv (fun i : Nat => stL 84 [(0, litI .i64 op), (1, .one (.t (eL cV (v :: l')))), (4, .one (.ptr 4 0)), (5, .one (.ptr 5 0)), (10, litI .i64 ((i : Int) + 1))] [(4, [.t (.lit (.bool false)), .t (.seq (some true) [])]), (5, [.t (.lit (.bool (G i).1)), .t (eN (G i).2)])])
            (fun i => i ≤ l'.length) (fun i => l'.length - i) 0 ?_ (Nat.zero_le _) ?_
          · rw [hG0]
            (refine gstep_list rfl ?_ ?_ ?_ ?_ <;> (try simp only [go_sem, tail_one]) <;> (try simp))
          · intro i hi
            simp only [go_sem]
            refine CondR_if (fun hlt => ?_) (fun hge => ?_)
            · have hlt' : i < l'.length := by omega
              have hel := hel2 i hlt'
              have hnx : F (i + 1) = stepN op (F i) (zv l'[i].2) := by
                rw [hF]
                show foldN op (zv v.2) (l'.take (i + 1)) = _
                rw [List.take_succ_eq_append_getElem hlt', foldN_snoc]
              have hm := sumL_mem (List.getElem_mem hlt')
              have hgz := hGz i
              have hgl := hGl i
              have hgs := hGs i
              generalize l'[i] = x at *
              generalize hgi : G i = gi at *
              rw [← hgz] at hnx
              have hA := i_Add gi.1 gi.2 x.2.1 x.2.2 (by omega) (by omega)
              have fz := hgs
              rw [hnx, hst] at fz
              have ilt : ((i : Int) < (l'.length : Int)) = True := eq_true (by omega)
              have i0 : ((0 : Int) ≤ (i : Int) + 1) = True := eq_true (by omega)
              simp only [go_sem, f13]
              refine regA_by 0 rfl ?_
              simp only [go_sem, hel, ilt, i0, Int.toNat_natCast]
              (repeat (refine And.intro (by omega) ?_))
              refine call_pure hA rfl ?_
              simp only [go_sem]
              refine ⟨i + 1, hlt', (by show l'.length - (i + 1) < l'.length - i; omega), ?_⟩
              (refine gstep_list rfl ?_ ?_ ?_ ?_ <;> (try simp only [go_sem, tail_one, fz, encZ, wrap_i64 (n := (i : Int) + 1 + 1) (by omega) (by omega)]) <;> (try simp))
            · obtain rfl : i = l'.length := by omega
              simp only [go_sem]
              exact fz_Cs (.cons .t (.cons .t .nil))
        | true =>
          have c14' := of_decide_eq_true c14
          have f13 : decide (op = 13) = false := decide_eq_false (by omega)
          have hst : ∀ a b : Int, stepN op a b = a - b := fun a b => by unfold stepN; rw [if_neg (by omega), if_pos c14']
          rw [c14, Bool.true_and] at f2
          simp only [go_sem, g0, f18, f15, f16, f17, c14, f2]
          refine loop_inv (fun i : Nat => stL 84 [(0, litI .i64 op), (1, .one (.t (eL cV (v :: l')))), (4, .one (.ptr 4 0)), (5, .one (.ptr 5 0)), (10, litI .i64 ((i : Int) + 1))] [(4, [.t (.lit (.bool false)), .t (.seq (some true) [])]), (5, [.t (.lit (.bool (G i).1)), .t (eN (G i).2)])])
            (fun i => i ≤ l'.length) (fun i => l'.length - i) 0 ?_ (Nat.zero_le _) ?_
          · rw [hG0]
            (refine gstep_list rfl ?_ ?_ ?_ ?_ <;> (try simp only [go_sem, tail_one]) <;> (try simp))
          · intro i hi
            simp only [go_sem]
            refine CondR_if (fun hlt => ?_) (fun hge => ?_)
            · have hlt' : i < l'.length := by omega
              have hel := hel2 i hlt'
              have hnx : F (i + 1) = stepN op (F i) (zv l'[i].2) := by
                rw [hF]
                show foldN op (zv v.2) (l'.take (i + 1)) = _
                rw [List.take_succ_eq_append_getElem hlt', foldN_snoc]
              have hm := sumL_mem (List.getElem_mem hlt')
              have hgz := hGz i
              have hgl := hGl i
              have hgs := hGs i
              generalize l'[i] = x at *
              generalize hgi : G i = gi at *
              rw [← hgz] at hnx
              have hA := i_Sub gi.1 gi.2 x.2.1 x.2.2 (by omega) (by omega)
              have fz := hgs
              rw [hnx, hst] at fz
              have ilt : ((i : Int) < (l'.length : Int)) = True := eq_true (by omega)
              have i0 : ((0 : Int) ≤ (i : Int) + 1) = True := eq_true (by omega)
              simp only [go_sem, f13]
              refine regA_by 0 rfl ?_
              simp only [go_sem, hel, ilt, i0, Int.toNat_natCast]
              (repeat (refine And.intro (by omega) ?_))
              refine call_pure hA rfl ?_
              simp only [go_sem]
              refine ⟨i + 1, hlt', (by show l'.length - (i + 1) < l'.length - i; omega), ?_⟩
              (refine gstep_list rfl ?_ ?_ ?_ ?_ <;> (try simp only [go_sem, tail_one, fz, encZ, wrap_i64 (n := (i : Int) + 1 + 1) (by omega) (by omega)]) <;> (try simp))
            · obtain rfl : i = l'.length := by omega
              simp only [go_sem]
              exact fz_Cs (.cons .t (.cons .t .nil))
end Go.Proofs.YtgnfgaioeldagaaGreat
namespace Go.Proofs.YtgnfgaioeldagaaGreat
open Go Go.Abs
set_option maxHeartbeats 16000000
theorem any_take_succ {α : Type} {l : List α} {p : α → Bool} {i : Nat} (h : i < l.length) : (l.take (i + 1)).any p = ((l.take i).any p || p l[i]) := by
  rw [List.take_succ_eq_append_getElem h, List.any_append]; simp
theorem any_yes {α : Type} {l : List α} {p : α → Bool} {i : Nat} (h : i < l.length) (hp : p l[i] = true) : l.any p = true := List.any_eq_true.2 ⟨_, List.getElem_mem h, hp⟩
set_option maxRecDepth 100000 in
theorem rv_truth (op : Int) (l : List VR) (hop : op = 5 ∨ op = 6 ∨ op = 7 ∨ op = 8 ∨ op = 9 ∨ op = 10 ∨ op = 11 ∨ op = 19 ∨ op = 20 ∨ op = 21 ∨ op = 22) (hk : kidsB op l.length = true) (hl : l.length < 1000000000) (hv : ∀ v ∈ l, limV v) :
    PCall Tryz.prog 96 [tI .i64 op, tLV l] (tB (holdsV op l)) := by
  refine pcall_of_wpA mixed Tryz.call96 Tryz.func96 rfl Tryz.ntmps96 Tryz.results96 (by simp) (by decide) ?_
  have two : ∀ {a b : VR}, l = [a, b] → (limV a ∧ limV b) ∧ elemD cV [a, b] 0 = cV a ∧ elemD cV [a, b] 1 = cV b := fun {a b} e => by
    subst e; exact ⟨⟨hv a (by simp), hv b (by simp)⟩, rfl, rfl⟩
  rcases hop with rfl | rfl | rfl | rfl | rfl | rfl | rfl | hcmp
  · obtain ⟨a, rfl⟩ := len1 (l := l) (by simpa [kidsB] using hk)
    have h := rv_Yes a (hv a (by simp))
    have g0 : elemD cV [a] 0 = cV a := rfl
    show wpA _ _ (retQ _ _ (tB (!(yesV a)))) _
    simp only [go_sem, g0]
    refine call_pure h rfl ?_
    simp only [go_sem]
  · show wpA _ _ (retQ _ _ (tB (l.all yesV))) _
    simp only [go_sem]
    refine loop_inv (fun i : Nat => stL 145 [(0, litI .i64 6), (1, .one (.t (eL cV l))), (5, litI .i64 i)] []) (fun i => i ≤ l.length ∧ (l.take i).all yesV = true) (fun i => l.length - i) 0 ?_ ⟨Nat.zero_le _, by simp⟩ ?_
    · (refine gstep_list rfl ?_ ?_ ?_ ?_ <;> (try simp only [go_sem, tail_one]) <;> (try simp))
    · rintro i ⟨hi, hinv⟩
      simp only [go_sem]
      refine CondR_if (fun hlt => ?_) (fun hge => ?_)
      · have hlt' : i < l.length := by omega
        have hel : elemD cV l i = cV l[i] := elemD_lt hlt'
        have hs := all_take_succ (p := yesV) hlt'
        have hno := all_no (p := yesV) hlt'
        have h := rv_Yes l[i] (hv _ (List.getElem_mem hlt'))
        have ilt : ((i : Int) < (l.length : Int)) = True := eq_true (by omega)
        generalize l[i] = x at *
        simp only [go_sem, hel, ilt]
        (repeat (refine And.intro (by omega) ?_))
        refine call_pure h rfl ?_
        cases c : yesV x with
        | false =>
          rw [hno c]
          simp only [go_sem]
        | true =>
          simp only [go_sem]
          refine loop_inv (fun _ : Nat => stL 145 [(0, litI .i64 6), (1, .one (.t (eL cV l))), (5, litI .i64 i), (6, litI .i64 0)] []) (fun _ => True) (fun n => n) 0 ?_ trivial ?_
          · (refine gstep_list rfl ?_ ?_ ?_ ?_ <;> (try simp only [go_sem, tail_one]) <;> (try simp))
          · intro _ _
            simp only [go_sem]
            cases c2 : decide ((0 : Int) < (i : Int)) with
            | true =>
              simp only [go_sem, c2]
              refine ⟨i + 1, ⟨hlt', by rw [hs, hinv, c]; rfl⟩, (by show l.length - (i + 1) < l.length - i; omega), ?_⟩
              (refine gstep_list rfl ?_ ?_ ?_ ?_ <;> (try simp only [go_sem, tail_one, wrap_i64 (n := (i : Int) + 1) (by omega) (by omega)]) <;> (try simp))
            | false =>
              simp only [go_sem, c2]
              refine ⟨i + 1, ⟨hlt', by rw [hs, hinv, c]; rfl⟩, (by show l.length - (i + 1) < l.length - i; omega), ?_⟩
              (refine gstep_list rfl ?_ ?_ ?_ ?_ <;> (try simp only [go_sem, tail_one, wrap_i64 (n := (i : Int) + 1) (by omega) (by omega)]) <;> (try simp))
      · obtain rfl : i = l.length := by omega
        rw [List.take_length] at hinv
        rw [hinv]
        simp only [go_sem]
  · show wpA _ _ (retQ _ _ (tB (l.any yesV))) _
    simp only [go_sem]
    refine loop_inv (fun i : Nat => stL 145 [(0, litI .i64 7), (1, .one (.t (eL cV l))), (5, litI .i64 i)] []) (fun i => i ≤ l.length ∧ (l.take i).any yesV = false) (fun i => l.length - i) 0 ?_ ⟨Nat.zero_le _, by simp⟩ ?_
    · (refine gstep_list rfl ?_ ?_ ?_ ?_ <;> (try simp only [go_sem, tail_one]) <;> (try simp))
    · rintro i ⟨hi, hinv⟩
      simp only [go_sem]
      refine CondR_if (fun hlt => ?_) (fun hge => ?_)
      · have hlt' : i < l.length := by omega
        have hel : elemD cV l i = cV l[i] := elemD_lt hlt'
        have hs := any_take_succ (p := yesV) hlt'
        have hno := any_yes (p := yesV) hlt'
        have h := rv_Yes l[i] (hv _ (List.getElem_mem hlt'))
        have ilt : ((i : Int) < (l.length : Int)) = True := eq_true (by omega)
        generalize l[i] = x at *
        simp only [go_sem, hel, ilt]
        (repeat (refine And.intro (by omega) ?_))
        refine call_pure h rfl ?_
        cases c : yesV x with
        | true =>
          rw [hno c]
          simp only [go_sem]
        | false =>
          simp only [go_sem]
          refine loop_inv (fun _ : Nat => stL 145 [(0, litI .i64 7), (1, .one (.t (eL cV l))), (5, litI .i64 i), (6, litI .i64 0)] []) (fun _ => True) (fun n => n) 0 ?_ trivial ?_
          · (refine gstep_list rfl ?_ ?_ ?_ ?_ <;> (try simp only [go_sem, tail_one]) <;> (try simp))
          · intro _ _
            simp only [go_sem]
            cases c2 : decide ((0 : Int) < (i : Int)) with
            | true =>
              simp only [go_sem, c2]
              refine ⟨i + 1, ⟨hlt', by rw [hs, hinv, c]; rfl⟩, (by show l.length - (i + 1) < l.length - i; omega), ?_⟩
              (refine gstep_list rfl ?_ ?_ ?_ ?_ <;> (try simp only [go_sem, tail_one, wrap_i64 (n := (i : Int) + 1) (by omega) (by omega)]) <;> (try simp))
            | false =>
              simp only [go_sem, c2]
              refine ⟨i + 1, ⟨hlt', by rw [hs, hinv, c]; rfl⟩, (by show l.length - (i + 1) < l.length - i; omega), ?_⟩
              (refine gstep_list rfl ?_ ?_ ?_ ?_ <;> (try simp only [go_sem, tail_one, wrap_i64 (n := (i : Int) + 1) (by omega) (by omega)]) <;> (try simp))
      · obtain rfl : i = l.length := by omega
        rw [List.take_length] at hinv
        rw [hinv]
        simp only [go_sem]
  · obtain ⟨a, b, rfl⟩ := len2 (l := l) (by simpa [kidsB] using hk)
    obtain ⟨⟨la, lb⟩, g0, g1⟩ := two rfl
    have h1 := rv_Yes a la
    have h2 := rv_Yes b lb
    show wpA _ _ (retQ _ _ (tB (yesV a != yesV b))) _
    simp only [go_sem, g0, g1]
    refine regA_by 0 rfl ?_
    simp only [go_sem, g0, g1]
    refine call_pure h1 rfl ?_
    simp only [go_sem, g0, g1]
    refine call_pure h2 rfl ?_
    simp only [go_sem]
    try rfl
  · obtain ⟨a, b, rfl⟩ := len2 (l := l) (by simpa [kidsB] using hk)
    obtain ⟨⟨la, lb⟩, g0, g1⟩ := two rfl
    have h1 := rv_Yes a la
    have h2 := rv_Yes b lb
    show wpA _ _ (retQ _ _ (tB (!(yesV a) || yesV b))) _
    simp only [go_sem, g0, g1]
    refine call_pure h1 rfl ?_
    cases c : yesV a with
    | true =>
      simp only [go_sem, g0, g1]
      refine call_pure h2 rfl ?_
      simp only [go_sem]
    | false => simp only [go_sem]
  · obtain ⟨a, b, rfl⟩ := len2 (l := l) (by simpa [kidsB] using hk)
    obtain ⟨⟨la, lb⟩, g0, g1⟩ := two rfl
    have h1 := rv_Same a b (by unfold limV at la; omega) (by unfold limV at lb; omega)
    show wpA _ _ (retQ _ _ (tB (decide (a = b)))) _
    simp only [go_sem, g0, g1]
    refine regA_by 0 rfl ?_
    simp only [go_sem, g0, g1]
    refine call_pure h1 rfl ?_
    simp only [go_sem]
  · show wpA _ _ (retQ _ _ (tB (!(twiceV l)))) _
    simp only [go_sem]
    refine loop_inv (fun i : Nat => stL 145 [(0, litI .i64 11), (1, .one (.t (eL cV l))), (5, litI .i64 i)] []) (fun i => i ≤ l.length ∧ twiceV (l.take i) = false) (fun i => l.length - i) 0 ?_ ⟨Nat.zero_le _, by simp [twiceV]⟩ ?_
    · (refine gstep_list rfl ?_ ?_ ?_ ?_ <;> (try simp only [go_sem, tail_one]) <;> (try simp))
    · rintro i ⟨hi, hinv⟩
      simp only [go_sem]
      refine CondR_if (fun hlt => ?_) (fun hge => ?_)
      · have hlt' : i < l.length := by omega
        have hel : elemD cV l i = cV l[i] := elemD_lt hlt'
        have hsn := twiceV_snoc (l.take i) l[i]
        rw [← List.take_succ_eq_append_getElem hlt', hinv, Bool.false_or] at hsn
        have happ : twiceV (l.take (i + 1)) = true → twiceV l = true := fun h => by
          have := twiceV_append (b := l.drop (i + 1)) h
          rwa [List.take_append_drop] at this
        have ilt : ((i : Int) < (l.length : Int)) = True := eq_true (by omega)
        have hix := hv _ (List.getElem_mem hlt')
        generalize hx : l[i] = x at *
        simp only [go_sem]
        refine loop_inv (fun k : Nat => stL 145 [(0, litI .i64 11), (1, .one (.t (eL cV l))), (5, litI .i64 i), (6, litI .i64 k)] []) (fun k => k ≤ i ∧ (l.take k).contains x = false) (fun k => i - k) 0 ?_ ⟨Nat.zero_le _, by simp⟩ ?_
        · (refine gstep_list rfl ?_ ?_ ?_ ?_ <;> (try simp only [go_sem, tail_one]) <;> (try simp))
        · rintro k ⟨hk1, hk2⟩
          simp only [go_sem]
          by_cases hki : k < i
          · have c2 : decide ((k : Int) < (i : Int)) = true := decide_eq_true (by omega)
            have hkl : k < l.length := by omega
            have kel : elemD cV l k = cV l[k] := elemD_lt hkl
            have klt : ((k : Int) < (l.length : Int)) = True := eq_true (by omega)
            have hc := rv_Same x l[k] (by unfold limV at hix; omega) (by have := hv _ (List.getElem_mem hkl); unfold limV at this; omega)
            have hsk : (l.take (k + 1)).contains x = ((l.take k).contains x || decide (x = l[k])) := by
              rw [List.take_succ_eq_append_getElem hkl, Bool.eq_iff_iff, Bool.or_eq_true, List.contains_iff_mem, List.contains_iff_mem, List.mem_append, List.mem_singleton, decide_eq_true_eq]
            have hin : x = l[k] → (l.take i).contains x = true := fun e => by
              rw [List.contains_iff_mem, e]
              exact List.mem_iff_getElem.2 ⟨k, by simp; omega, by simp⟩
            generalize l[k] = y at *
            simp only [go_sem, c2, hel, ilt, kel, klt]
            refine regA_by 0 rfl ?_
            simp only [go_sem, hel, ilt, kel, klt]
            (repeat (refine And.intro (by omega) ?_))
            refine call_pure hc rfl ?_
            by_cases he : x = y
            · rw [decide_eq_true he]
              rw [happ (by rw [hsn]; exact hin he)]
              simp only [go_sem]
            · rw [decide_eq_false he]
              simp only [go_sem]
              refine ⟨k + 1, ⟨hki, by rw [hsk, hk2, decide_eq_false he]; rfl⟩, (by show i - (k + 1) < i - k; omega), ?_⟩
              (refine gstep_list rfl ?_ ?_ ?_ ?_ <;> (try simp only [go_sem, tail_one, wrap_i64 (n := (k : Int) + 1) (by omega) (by omega)]) <;> (try simp))
          · obtain rfl : k = i := by omega
            have c2 : decide ((k : Int) < (k : Int)) = false := decide_eq_false (by omega)
            simp only [go_sem, c2]
            refine ⟨k + 1, ⟨hlt', by rw [hsn]; exact hk2⟩, (by show l.length - (k + 1) < l.length - k; omega), ?_⟩
            (refine gstep_list rfl ?_ ?_ ?_ ?_ <;> (try simp only [go_sem, tail_one, wrap_i64 (n := (k : Int) + 1) (by omega) (by omega)]) <;> (try simp))
      · obtain rfl : i = l.length := by omega
        rw [List.take_length] at hinv
        rw [hinv]
        simp only [go_sem]
  · obtain ⟨a, b, rfl⟩ := len2 (l := l) (by rcases hcmp with rfl | rfl | rfl | rfl <;> simpa [kidsB] using hk)
    obtain ⟨⟨la, lb⟩, g0, g1⟩ := two rfl
    have h1 := i_Cmp a.2.1 a.2.2 b.2.1 b.2.2 (by unfold limV at la; omega) (by unfold limV at lb; omega)
    have p1 := cmp_le (iv a.2.1 a.2.2) (iv b.2.1 b.2.2)
    have p2 := cmp_lt (iv a.2.1 a.2.2) (iv b.2.1 b.2.2)
    have p3 := cmp_ge (iv a.2.1 a.2.2) (iv b.2.1 b.2.2)
    have p4 := cmp_gt (iv a.2.1 a.2.2) (iv b.2.1 b.2.2)
    generalize cmpI (iv a.2.1 a.2.2) (iv b.2.1 b.2.2) = n at *
    rcases hcmp with rfl | rfl | rfl | rfl
    · show wpA _ _ (retQ _ _ (tB (decide (iv a.2.1 a.2.2 ≤ iv b.2.1 b.2.2)))) _
      rw [← p1]
      simp only [go_sem, g0, g1]
      refine regA_by 0 rfl ?_
      simp only [go_sem, g0, g1]
      refine call_pure h1 rfl ?_
      simp only [go_sem]
    · show wpA _ _ (retQ _ _ (tB (decide (iv a.2.1 a.2.2 < iv b.2.1 b.2.2)))) _
      rw [← p2]
      simp only [go_sem, g0, g1]
      refine regA_by 0 rfl ?_
      simp only [go_sem, g0, g1]
      refine call_pure h1 rfl ?_
      simp only [go_sem]
    · show wpA _ _ (retQ _ _ (tB (decide (iv b.2.1 b.2.2 ≤ iv a.2.1 a.2.2)))) _
      rw [← p3]
      simp only [go_sem, g0, g1]
      refine regA_by 0 rfl ?_
      simp only [go_sem, g0, g1]
      refine call_pure h1 rfl ?_
      simp only [go_sem]
    · show wpA _ _ (retQ _ _ (tB (decide (iv b.2.1 b.2.2 < iv a.2.1 a.2.2)))) _
      rw [← p4]
      simp only [go_sem, g0, g1]
      refine regA_by 0 rfl ?_
      simp only [go_sem, g0, g1]
      refine call_pure h1 rfl ?_
      simp only [go_sem]
end Go.Proofs.YtgnfgaioeldagaaGreat
namespace Go.Proofs.YtgnfgaioeldagaaGreat
open Go Go.Abs
set_option maxHeartbeats 16000000
set_option maxRecDepth 100000 in
theorem r_SigOf (t : Tm) (hn : t.nodes < 1000000) : PCall Tryz.prog 94 [gT t] (gSg (sgT t)) := by
  refine pcall_of_wpA mixed Tryz.call94 Tryz.func94 rfl Tryz.ntmps94 Tryz.results94 (by simp) (by decide) ?_
  have hkl := kids_len t
  simp only [go_sem, cT_eq]
  refine loop_inv (fun i : Nat => stL 29 [(1, .one (.ptr 1 0)), (2, .one (.ptr 2 0)), (3, .one (.ptr 3 0)), (4, litI .i64 i)]
      (accE 1000 cInt ((t.kids.take i).map Tm.sort) ++ [(1, [.t (.lit (.int .i64 t.op)), .t (.lit (.bool t.num.1)), .t (eN t.num.2), .t (.lit (.string t.name)), .t (.lit (.int .i64 t.sort)), .t (eL cT t.kids)]), (2, [.t (.lit (.string { data := #[] })), .t (.seq (some true) []), .t (.lit (.int .i64 0))]), (3, [.t (.lit (.string t.name)), accC 1000 1 ((t.kids.take i).map Tm.sort), .t (.lit (.int .i64 t.sort))])]))
      (fun i => i ≤ t.kids.length) (fun i => t.kids.length - i) 0 ?_ (Nat.zero_le _) ?_
  · rw [List.take_zero, List.map_nil]
    (refine gstep_list rfl ?_ ?_ ?_ ?_ <;> (try simp only [go_sem, tail_one]) <;> (try simp))
  · intro i hi
    simp only [go_sem]
    refine CondR_if (fun hlt => ?_) (fun hge => ?_)
    · have hlt' : i < t.kids.length := by omega
      have hel : elemD cT t.kids i = cT t.kids[i] := elemD_lt hlt'
      have hnx := opA_next (f := Tm.sort) hlt'
      have hal : ((t.kids.take i).map Tm.sort).length = i := by rw [List.length_map, List.length_take]; omega
      have ilt : ((i : Int) < (t.kids.length : Int)) = True := eq_true (by omega)
      generalize t.kids[i] = k at *
      generalize (t.kids.take i).map Tm.sort = acc at *
      simp only [go_sem]
      refine regA_by 0 rfl ?_
      simp only [go_sem, hel, cT_eq, ilt]
      (repeat (refine And.intro (by omega) ?_))
      refine opA_app_acc (sz := 1) (bytes := 8) (by simp only [go_sem, AppTy] <;> decide) cInt_len acc [k.sort] (b := 1000) (by simp only [go_sem] <;> rfl) (by simp only [go_sem] <;> rfl) (by simp only [go_sem] <;> rfl) rfl (by simp) (by simp only [List.length_cons, List.length_nil] at *; omega) (by decide) ?_
      simp only [go_sem]
      refine ⟨i + 1, hlt', (by show t.kids.length - (i + 1) < t.kids.length - i; omega), ?_⟩
      (refine gstep_list rfl ?_ ?_ ?_ ?_ <;> (try simp only [go_sem, tail_one, hnx, wrap_i64 (n := (i : Int) + 1) (by omega) (by omega)]) <;> (try simp))
    · obtain rfl : i = t.kids.length := by omega
      rw [List.take_length]
      simp only [go_sem]
      refine fz_Cs (.cons .t (.cons (fz_acc cInt_len ?_) (.cons .t .nil)))
      cases h : t.kids.map Tm.sort with
      | nil => exact .inl rfl
      | cons z zs => right; rfl
set_option maxRecDepth 100000 in
theorem r_Few (t : Tm) (hK : KT t) : PCall Tryz.prog 65 [gT t] (tB (decide (t.nodes ≤ 400))) := by
  refine pcall_of_wpA mixed Tryz.call65 Tryz.func65 rfl Tryz.ntmps65 Tryz.results65 (by simp) (by decide) ?_
  have h := r_Count t hK
  rw [show gT t = TV.agg (cT t) from rfl, cT_eq] at h
  rw [← isT_min]
  generalize min 401 t.nodes = n at *
  simp only [go_sem, cT_eq]
  refine call_pure h rfl ?_
  simp only [go_sem]
set_option maxRecDepth 100000 in
theorem r_Is (t : Tm) (hF : FT t) (hK : KT t) : PCall Tryz.prog 25 [gT t] (tB (isT t)) := by
  refine pcall_of_wpA mixed Tryz.call25 Tryz.func25 rfl Tryz.ntmps25 Tryz.results25 (by simp) (by decide) ?_
  have h1 := r_Few t hK
  unfold isT
  rw [show gT t = TV.agg (cT t) from rfl, cT_eq] at h1
  by_cases c : t.nodes ≤ 400
  · have h2 := r_is 400 t c (Nat.le_refl _) hF hK
    rw [show gT t = TV.agg (cT t) from rfl, cT_eq] at h2
    rw [decide_eq_true c] at h1 ⊢
    simp only [go_sem, cT_eq]
    refine call_pure h1 rfl ?_
    simp only [go_sem]
    refine call_pure h2 rfl ?_
    simp only [go_sem]
  · rw [decide_eq_false c] at h1 ⊢
    simp only [go_sem, cT_eq]
    refine call_pure h1 rfl ?_
    simp only [go_sem]
theorem held_held (m : List Fu) : heldM (heldM m) = heldM m := by
  by_cases h : isM m = true
  · have e : heldM m = m := by unfold heldM; rw [if_pos h]
    rw [e, e]
  · have e : heldM m = [] := by unfold heldM; rw [if_neg h]
    rw [e]; unfold heldM; split <;> rfl
set_option maxRecDepth 100000 in
theorem rv_eval (x : List Fu) (hm : limM x) (h4 : val4 x) : ∀ (n : Nat) (t : Tm), t.nodes ≤ n → n < 100000 → okT t = true → FT t → PCall Tryz.prog 52 [gT t, tLF (heldM x)] (gV (evalT (heldM x) t)) := by
  have hm2 := limM_held hm
  have h42 := val4_held h4
  have hhh := held_held x
  generalize heldM x = m at *
  intro n
  induction n with
  | zero => intro t h; have := nodes_pos t; omega
  | succ n ih =>
  intro t hn hn1 ho hF
  have hko := okT_kids ho
  obtain ⟨f1, f2, f3⟩ := (FT_eq t).1 hF
  have hkl := kids_len t
  have hnt := nodes_eq t
  have hev : ∀ k ∈ t.kids, (evalT m k).2.2.length + 1 ≤ 6 * k.nodes := fun k hk => evl h42 k (hko k hk) (f3 k hk)
  have hsum := sumL_map hev
  have hlim : ∀ v ∈ t.kids.map (evalT m), limV v := fun v hv => by have := sumL_mem hv; unfold limV; omega
  have hcall : ∀ k ∈ t.kids, PCall Tryz.prog 52 [gT k, tLF m] (gV (evalT m k)) := fun k hk => ih k (by have := nodes_kid hk; omega) (by omega) (hko k hk) (f3 k hk)
  have hSg := r_SigOf t (by omega)
  rw [show gT t = TV.agg (cT t) from rfl, cT_eq] at hSg
  rw [evalT_eq]
  have hvl : (t.kids.map (evalT m)).length = t.kids.length := List.length_map _
  refine pcall_of_wpS [false, false, true] mixed Tryz.call52 Tryz.func52 rfl Tryz.ntmps52 Tryz.results52 (by simp) (by decide) ?_
  simp only [go_sem, cT_eq]
  refine loop_inv (fun i : Nat => stL 69 [(1, .one (.t (eL cFu m))), (2, .one (.ptr 2 0)), (4, .one (.ptr 4 0)), (5, accA 1000 3 ((t.kids.take i).map (evalT m))), (6, litI .i64 i)]
      (accE 1000 cV ((t.kids.take i).map (evalT m)) ++ [(2, [.t (.lit (.int .i64 t.op)), .t (.lit (.bool t.num.1)), .t (eN t.num.2), .t (.lit (.string t.name)), .t (.lit (.int .i64 t.sort)), .t (eL cT t.kids)]), (4, [.t (.lit (.int .i64 0)), .t (.lit (.bool false)), .t (.seq (some true) [])])]))
    (fun i => i ≤ t.kids.length) (fun i => t.kids.length - i) 0 ?_ (Nat.zero_le _) ?_
  · rw [List.take_zero, List.map_nil]
    (refine gstep_list rfl ?_ ?_ ?_ ?_ <;> (try simp only [go_sem, tail_one]) <;> (try simp))
  · intro i hi
    simp only [go_sem]
    refine CondR_if (fun hlt => ?_) (fun hge => ?_)
    · have hlt' : i < t.kids.length := by omega
      have hel : elemD cT t.kids i = cT t.kids[i] := elemD_lt hlt'
      have hnx := opA_next (f := evalT m) hlt'
      have hal : ((t.kids.take i).map (evalT m)).length = i := by rw [List.length_map, List.length_take]; omega
      have h1 := hcall _ (List.getElem_mem hlt')
      have ilt : ((i : Int) < (t.kids.length : Int)) = True := eq_true (by omega)
      generalize t.kids[i] = k at *
      rw [show gT k = TV.agg (cT k) from rfl, cT_eq] at h1
      generalize evalT m k = v at *
      generalize (t.kids.take i).map (evalT m) = acc at *
      simp only [go_sem, hel, cT_eq, ilt]
      (repeat (refine And.intro (by omega) ?_))
      refine call_pure h1 rfl ?_
      simp only [go_sem]
      refine opA_app_acc (sz := 3) (bytes := 40) (by simp only [go_sem, AppTy] <;> decide) cV_len acc [v] (b := 1000) (by simp only [go_sem] <;> rfl) (by simp only [go_sem] <;> rfl) (by simp only [go_sem] <;> rfl) rfl (by simp) (by simp only [List.length_cons, List.length_nil] at *; omega) (by decide) ?_
      simp only [go_sem]
      refine ⟨i + 1, hlt', (by show t.kids.length - (i + 1) < t.kids.length - i; omega), ?_⟩
      (refine gstep_list rfl ?_ ?_ ?_ ?_ <;> (try simp only [go_sem, tail_one, hnx, wrap_i64 (n := (i : Int) + 1) (by omega) (by omega)]) <;> (try simp))
    · obtain rfl : i = t.kids.length := by omega
      rw [List.take_length]
      clear ih hcall hev
      generalize hvs : t.kids.map (evalT m) = vs at *
      simp only [go_sem]
      refine pau (stL 69 [(1, .one (.t (eL cFu m))), (2, .one (.ptr 2 0)), (4, .one (.ptr 4 0)), (5, .one (.t (eL cV vs)))] [(2, [.t (.lit (.int .i64 t.op)), .t (.lit (.bool t.num.1)), .t (eN t.num.2), .t (.lit (.string t.name)), .t (.lit (.int .i64 t.sort)), .t (eL cT t.kids)]), (4, [.t (.lit (.int .i64 0)), .t (.lit (.bool false)), .t (.seq (some true) [])])]) ?_ ?_
      · cases vs with
        | nil =>
          refine GStep.trans (gstep_weakS 5 (nl := some true) (xs := []) (by simp only [go_sem] <;> rfl)) ?_
          (refine gstep_list rfl ?_ ?_ ?_ ?_ <;> (try simp only [go_sem, tail_one, eL]) <;> (try simp))
        | cons v w =>
          refine GStep.trans (gstep_frz (b := 1000) (sz := 3) (len := (v :: w).length) (x := eL cV (v :: w)) (cs := cellsL cV (v :: w)) (by simp only [go_sem] <;> rfl) (treeOf_L cV_len)) ?_
          (refine gstep_list rfl ?_ ?_ ?_ ?_ <;> (try simp only [go_sem, tail_one]) <;> (try simp))
      · unfold evalN
        simp only [go_sem]
        by_cases c1 : t.op = 1
        · have g1 := decide_eq_true c1
          rw [if_pos c1]
          simp only [go_sem, g1]
          exact fz_Cs (.cons .t (.cons .t (.cons .t .nil)))
        · have g1 := decide_eq_false c1
          rw [if_neg c1]
          by_cases c2 : t.op = 2
          · have g2 := decide_eq_true c2
            have h := rv_Truth true
            rw [if_pos c2]
            generalize boolV true = r at *
            simp only [go_sem, g1, g2]
            refine call_pure h rfl ?_
            simp only [go_sem]
            exact fz_Cs (.cons .t (.cons .t (.cons .t .nil)))
          · have g2 := decide_eq_false c2
            rw [if_neg c2]
            by_cases c3 : t.op = 3
            · have g3 := decide_eq_true c3
              have h := rv_Truth false
              rw [if_pos c3]
              generalize boolV false = r at *
              simp only [go_sem, g1, g2, g3]
              refine call_pure h rfl ?_
              simp only [go_sem]
              exact fz_Cs (.cons .t (.cons .t (.cons .t .nil)))
            · have g3 := decide_eq_false c3
              rw [if_neg c3]
              by_cases c4 : t.op = 4
              · have g4 := decide_eq_true c4
                have h2 := rv_Of m (sgT t) vs hm2 (by show (t.kids.map Tm.sort).length < _; rw [List.length_map]; omega) hlim
                rw [hhh] at h2
                rw [if_pos c4]
                generalize sgT t = sg at *
                generalize appF sg vs m = r at *
                simp only [go_sem, g1, g2, g3, g4]
                refine call_pure hSg rfl ?_
                simp only [go_sem]
                refine call_pure h2 rfl ?_
                simp only [go_sem]
                exact fz_Cs (.cons .t (.cons .t (.cons .t .nil)))
              · have g4 := decide_eq_false c4
                obtain ⟨ho1, hkb, hso, _⟩ := node_op ho (by omega)
                rw [if_neg c4]
                by_cases c12 : t.op = 12
                · have g12 := decide_eq_true c12
                  rw [if_pos c12]
                  obtain ⟨a, b, c, rfl⟩ := len3 (l := vs) (by rw [hvl]; rw [c12] at hkb; simpa [kidsB] using hkb)
                  have e0 : elemD cV [a, b, c] 0 = cV a := rfl
                  have e1 : elemD cV [a, b, c] 1 = cV b := rfl
                  have e2 : elemD cV [a, b, c] 2 = cV c := rfl
                  have h := rv_Yes a (hlim a (by simp))
                  cases cy : yesV a with
                  | true =>
                    rw [cy] at h
                    rw [show (if yesV (atV [a, b, c] 0) then atV [a, b, c] 1 else atV [a, b, c] 2) = b by show (if yesV a then b else c) = b; rw [cy]; rfl]
                    simp only [go_sem, g1, g2, g3, g4, g12, e0, e1, e2]
                    refine call_pure h rfl ?_
                    simp only [go_sem, e0, e1, e2]
                    exact fz_Cs (.cons .t (.cons .t (.cons .t .nil)))
                  | false =>
                    rw [cy] at h
                    rw [show (if yesV (atV [a, b, c] 0) then atV [a, b, c] 1 else atV [a, b, c] 2) = c by show (if yesV a then b else c) = c; rw [cy]; rfl]
                    simp only [go_sem, g1, g2, g3, g4, g12, e0, e1, e2]
                    refine call_pure h rfl ?_
                    simp only [go_sem, e0, e1, e2]
                    exact fz_Cs (.cons .t (.cons .t (.cons .t .nil)))
                · have g12 := decide_eq_false c12
                  rw [if_neg c12]
                  by_cases cs : t.sort = 2
                  · have gs := decide_eq_true cs
                    rw [if_pos cs]
                    have h1 := rv_number t.op vs (sortR_two (by rw [← hso]; exact cs) c12) (by rw [hvl]; exact hkb) (by omega)
                    generalize numV t.op vs = r at *
                    simp only [go_sem, g1, g2, g3, g4, g12, gs]
                    refine call_pure h1 rfl ?_
                    simp only [go_sem]
                    exact fz_Cs (.cons .t (.cons .t (.cons .t .nil)))
                  · have gs := decide_eq_false cs
                    rw [if_neg cs]
                    have hop := sortR_one (by rw [← hso]; exact cs)
                    have h1 := rv_truth t.op vs (by omega) (by rw [hvl]; exact hkb) (by omega) hlim
                    have h2 := rv_Truth (holdsV t.op vs)
                    generalize holdsV t.op vs = q at *
                    generalize boolV q = r at *
                    simp only [go_sem, g1, g2, g3, g4, g12, gs]
                    refine call_pure h1 rfl ?_
                    simp only [go_sem]
                    refine call_pure h2 rfl ?_
                    simp only [go_sem]
                    exact fz_Cs (.cons .t (.cons .t (.cons .t .nil)))
end Go.Proofs.YtgnfgaioeldagaaGreat
