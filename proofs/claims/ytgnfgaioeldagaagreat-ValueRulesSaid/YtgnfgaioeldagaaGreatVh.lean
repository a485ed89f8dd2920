/- At every input the call answers true and leaves its arguments as they were; no conditions. -/
import Derived.Test.YtgnfgaioeldagaaGreatVg
set_option linter.unusedSimpArgs false
set_option linter.unusedVariables false
namespace Go.Proofs.YtgnfgaioeldagaaGreat
open Go Go.Abs
set_option maxHeartbeats 16000000
/-! ### What is few -/
mutual
def ftB : Tm → Bool
  | .mk _ n s _ ks => decide (s.size ≤ 30) && decide (n.2.length ≤ 4) && ftBs ks
def ftBs : List Tm → Bool
  | [] => true
  | t :: l => ftB t && ftBs l
end
theorem ftBs_all : ∀ l : List Tm, ftBs l = l.all ftB
  | [] => by rw [ftBs]; rfl
  | t :: l => by rw [ftBs, ftBs_all l]; rfl
theorem ftB_eq (t : Tm) : ftB t = (decide (t.name.size ≤ 30) && decide (t.num.2.length ≤ 4) && t.kids.all ftB) := by
  cases t with | mk o n s r ks => rw [ftB, ftBs_all]; rfl
theorem ftB_FT : ∀ t : Tm, ftB t = true → FT t := by
  refine Tm.ind fun t ih h => ?_
  rw [ftB_eq] at h
  simp only [Bool.and_eq_true, decide_eq_true_eq] at h
  exact (FT_eq t).2 ⟨h.1.2, h.1.1, fun k hk => ih k hk (List.all_eq_true.1 h.2 k hk)⟩
set_option maxRecDepth 100000 in
theorem fewNames12 : ∀ (t : Tm), KT t → PCall Tryz.prog 40 [gT t] (tB (ftB t)) := by
  refine Tm.ind fun t ih hK => ?_
  refine pcall_of_wpA mixed Tryz.call40 Tryz.func40 rfl Tryz.ntmps40 Tryz.results40 (by simp) (by decide) ?_
  obtain ⟨k1, k2, k3, k4⟩ := (KT_eq t).1 hK
  have e := ftB_eq t
  have e1 : decide ((30 : Int) < (t.name.size : Int)) = !(decide (t.name.size ≤ 30)) := by
    by_cases h : t.name.size ≤ 30
    · rw [decide_eq_true h, decide_eq_false (by omega)]; rfl
    · rw [decide_eq_false h, decide_eq_true (by omega)]; rfl
  have e2 : decide ((4 : Int) < (t.num.2.length : Int)) = !(decide (t.num.2.length ≤ 4)) := by
    by_cases h : t.num.2.length ≤ 4
    · rw [decide_eq_true h, decide_eq_false (by omega)]; rfl
    · rw [decide_eq_false h, decide_eq_true (by omega)]; rfl
  rw [e]
  cases c1 : decide (t.name.size ≤ 30) with
  | false => rw [c1] at e1; simp only [go_sem, cT_eq, e1]
  | true =>
    rw [c1] at e1
    cases c2 : decide (t.num.2.length ≤ 4) with
    | false => rw [c2] at e2; simp only [go_sem, cT_eq, e1, e2]
    | true =>
      rw [c2] at e2
      simp only [go_sem, cT_eq, e1, e2]
      refine loop_inv (fun i : Nat => stL 29 [(1, .one (.ptr 1 0)), (3, litI .i64 i)] [(1, [.t (.lit (.int .i64 t.op)), .t (.lit (.bool t.num.1)), .t (eN t.num.2), .t (.lit (.string t.name)), .t (.lit (.int .i64 t.sort)), .t (eL cT t.kids)])])
        (fun i => i ≤ t.kids.length ∧ (t.kids.take i).all ftB = true) (fun i => t.kids.length - i) 0 ?_ ⟨Nat.zero_le _, by simp⟩ ?_
      · (refine gstep_list rfl ?_ ?_ ?_ ?_ <;> (try simp only [go_sem, tail_one]) <;> (try simp))
      · rintro i ⟨hi, hinv⟩
        simp only [go_sem]
        refine CondR_if (fun hlt => ?_) (fun hge => ?_)
        · have hlt' : i < t.kids.length := by omega
          have hel : elemD cT t.kids i = cT t.kids[i] := elemD_lt hlt'
          have hs := all_take_succ (p := ftB) hlt'
          have hno := all_no (p := ftB) hlt'
          have h1 := ih _ (List.getElem_mem hlt') (k4 _ (List.getElem_mem hlt'))
          have ilt : ((i : Int) < (t.kids.length : Int)) = True := eq_true (by omega)
          generalize t.kids[i] = k at *
          rw [show gT k = TV.agg (cT k) from rfl, cT_eq] at h1
          simp only [go_sem, hel, cT_eq, ilt]
          (repeat (refine And.intro (by omega) ?_))
          refine call_pure h1 rfl ?_
          cases c : ftB k with
          | false =>
            rw [hno c]
            simp only [go_sem]
          | true =>
            simp only [go_sem]
            refine ⟨i + 1, ⟨hlt', by rw [hs, hinv, c]; rfl⟩, (by show t.kids.length - (i + 1) < t.kids.length - i; omega), ?_⟩
            (refine gstep_list rfl ?_ ?_ ?_ ?_ <;> (try simp only [go_sem, tail_one, wrap_i64 (n := (i : Int) + 1) (by omega) (by omega)]) <;> (try simp))
        · obtain rfl : i = t.kids.length := by omega
          rw [List.take_length] at hinv
          rw [hinv]
          simp only [go_sem]
def fewT (t : Tm) : Bool := decide (t.nodes ≤ 120) && ftB t
set_option maxRecDepth 100000 in
theorem fewTerm12 (t : Tm) (hK : KT t) : PCall Tryz.prog 9 [gT t] (tB (fewT t)) := by
  refine pcall_of_wpA mixed Tryz.call9 Tryz.func9 rfl Tryz.ntmps9 Tryz.results9 (by simp) (by decide) ?_
  have h1 := r_Count t hK
  have h2 := fewNames12 t hK
  rw [show gT t = TV.agg (cT t) from rfl, cT_eq] at h1 h2
  have e : decide (((min 401 t.nodes : Nat) : Int) ≤ 120) = decide (t.nodes ≤ 120) := decide_eq_decide.2 (by omega)
  unfold fewT
  generalize min 401 t.nodes = n at *
  generalize ftB t = q at *
  cases c : decide (t.nodes ≤ 120) with
  | false =>
    rw [c] at e
    simp only [go_sem, cT_eq]
    refine call_pure h1 rfl ?_
    simp only [go_sem, e]
  | true =>
    rw [c] at e
    simp only [go_sem, cT_eq]
    refine call_pure h1 rfl ?_
    simp only [go_sem, e]
    refine call_pure h2 rfl ?_
    simp only [go_sem]
set_option maxRecDepth 100000 in
theorem fewTerms12 (l : List Tm) (hl : l.length ≤ 9223372036854775807) (hK : ∀ t ∈ l, KT t) : PCall Tryz.prog 10 [tLT l] (tB (l.all fewT && decide (l.length ≤ 8))) := by
  refine pcall_of_wpA mixed Tryz.call10 Tryz.func10 rfl Tryz.ntmps10 Tryz.results10 (by simp) (by decide) ?_
  simp only [go_sem]
  refine loop_inv (fun i : Nat => stL 19 [(0, .one (.t (eL cT l))), (3, litI .i64 i)] []) (fun i => i ≤ l.length ∧ (l.take i).all fewT = true) (fun i => l.length - i) 0 ?_ ⟨Nat.zero_le _, by simp⟩ ?_
  · (refine gstep_list rfl ?_ ?_ ?_ ?_ <;> (try simp only [go_sem, tail_one]) <;> (try simp))
  · rintro i ⟨hi, hinv⟩
    simp only [go_sem]
    refine CondR_if (fun hlt => ?_) (fun hge => ?_)
    · have hlt' : i < l.length := by omega
      have hel : elemD cT l i = cT l[i] := elemD_lt hlt'
      have hs := all_take_succ (p := fewT) hlt'
      have hno := all_no (p := fewT) hlt'
      have h1 := fewTerm12 _ (hK _ (List.getElem_mem hlt'))
      have ilt : ((i : Int) < (l.length : Int)) = True := eq_true (by omega)
      generalize l[i] = t at *
      rw [show gT t = TV.agg (cT t) from rfl, cT_eq] at h1
      simp only [go_sem, hel, cT_eq, ilt]
      (repeat (refine And.intro (by omega) ?_))
      refine call_pure h1 rfl ?_
      cases c : fewT t with
      | false =>
        rw [hno c]
        simp only [go_sem]
      | true =>
        simp only [go_sem]
        refine ⟨i + 1, ⟨hlt', by rw [hs, hinv, c]; rfl⟩, (by show l.length - (i + 1) < l.length - i; omega), ?_⟩
        (refine gstep_list rfl ?_ ?_ ?_ ?_ <;> (try simp only [go_sem, tail_one, wrap_i64 (n := (i : Int) + 1) (by omega) (by omega)]) <;> (try simp))
    · obtain rfl : i = l.length := by omega
      rw [List.take_length] at hinv
      have e : decide ((l.length : Int) ≤ 8) = decide (l.length ≤ 8) := decide_eq_decide.2 (by omega)
      rw [hinv, ← e]
      simp only [go_sem]
/-- Lists of any structure that is handed over. -/
def KM (m : List Fu) : Prop := m.length ≤ 9223372036854775807 ∧ ∀ f ∈ m, f.1.1.size ≤ 9223372036854775807 ∧ f.1.2.1.length ≤ 9223372036854775807 ∧ f.2.1.length ≤ 9223372036854775807 ∧ ∀ r ∈ f.2.1, r.1.length ≤ 9223372036854775807
def v4 (v : VR) : Bool := decide (v.2.2.length ≤ 4)
def frB (r : Rw) : Bool := decide (r.1.length ≤ 6) && v4 r.2 && r.1.all v4
def ffB (f : Fu) : Bool := decide (f.2.1.length ≤ 10) && decide (f.1.2.1.length ≤ 6) && decide (f.1.1.size ≤ 30) && v4 f.2.2 && f.2.1.all frB
def fmB (m : List Fu) : Bool := m.all ffB && decide (m.length ≤ 12)
theorem fmB_lim {m : List Fu} (h : fmB m = true) : limM m ∧ val4 m := by
  unfold fmB at h
  simp only [Bool.and_eq_true, decide_eq_true_eq] at h
  have hf : ∀ f ∈ m, ffB f = true := fun f hf => List.all_eq_true.1 h.1 f hf
  have hx : ∀ f ∈ m, f.2.1.length ≤ 10 ∧ f.1.2.1.length ≤ 6 ∧ f.1.1.size ≤ 30 ∧ f.2.2.2.2.length ≤ 4 ∧ ∀ r ∈ f.2.1, r.1.length ≤ 6 ∧ r.2.2.2.length ≤ 4 ∧ ∀ v ∈ r.1, v.2.2.length ≤ 4 := fun f hm => by
    have h1 := hf f hm
    unfold ffB v4 at h1
    simp only [Bool.and_eq_true, decide_eq_true_eq] at h1
    refine ⟨h1.1.1.1.1, h1.1.1.1.2, h1.1.1.2, h1.1.2, fun r hr => ?_⟩
    have h2 := List.all_eq_true.1 h1.2 r hr
    unfold frB v4 at h2
    simp only [Bool.and_eq_true, decide_eq_true_eq] at h2
    exact ⟨h2.1.1, h2.1.2, fun v hv => by have := List.all_eq_true.1 h2.2 v hv; simpa using this⟩
  refine ⟨⟨by omega, fun f hm => ?_⟩, fun f hm => ⟨(hx f hm).2.2.2.1, fun r hr => ((hx f hm).2.2.2.2 r hr).2.1⟩⟩
  obtain ⟨a1, a2, a3, a4, a5⟩ := hx f hm
  exact ⟨by omega, by omega, by omega, fun r hr => ⟨by have := (a5 r hr).1; omega, fun v hv => by have := (a5 r hr).2.2 v hv; unfold limV; omega, by have := (a5 r hr).2.1; unfold limV; omega⟩, by unfold limV; omega⟩
theorem gt_le (n k : Nat) : decide ((k : Int) < (n : Int)) = !(decide (n ≤ k)) := by
  by_cases h : n ≤ k
  · rw [decide_eq_true h, decide_eq_false (by omega)]; rfl
  · rw [decide_eq_false h, decide_eq_true (by omega)]; rfl
end Go.Proofs.YtgnfgaioeldagaaGreat
namespace Go.Proofs.YtgnfgaioeldagaaGreat
open Go Go.Abs
set_option maxHeartbeats 16000000
theorem gtI (n k : Nat) {K : Int} (h : K = (k : Int)) : decide (K < (n : Int)) = !(decide (n ≤ k)) := by subst h; exact gt_le n k
theorem cV_atL {v : VR} : cV v = [.lit (.int .i64 v.1), .lit (.bool v.2.1), eN v.2.2] := rfl
set_option maxRecDepth 100000 in
theorem fewFuns12 (m : List Fu) (hK : KM m) : PCall Tryz.prog 11 [tLF m] (tB (fmB m)) := by
  refine pcall_of_wpA mixed Tryz.call11 Tryz.func11 rfl Tryz.ntmps11 Tryz.results11 (by simp) (by decide) ?_
  obtain ⟨hml, hmf⟩ := hK
  have hno : ∀ i (h : i < m.length), ffB m[i] = false → fmB m = false := fun i h e => by unfold fmB; rw [all_no h e]; rfl
  simp only [go_sem]
  refine loop_inv (fun i : Nat => stL 119 [(0, .one (.t (eL cFu m))), (3, litI .i64 i)] []) (fun i => i ≤ m.length ∧ (m.take i).all ffB = true) (fun i => m.length - i) 0 ?_ ⟨Nat.zero_le _, by simp⟩ ?_
  · (refine gstep_list rfl ?_ ?_ ?_ ?_ <;> (try simp only [go_sem, tail_one]) <;> (try simp))
  · rintro i ⟨hi, hinv⟩
    simp only [go_sem]
    refine CondR_if (fun hlt => ?_) (fun hge => ?_)
    · have hlt' : i < m.length := by omega
      have hel : elemD cFu m i = cFu m[i] := elemD_lt hlt'
      have hs := all_take_succ (p := ffB) hlt'
      have hno := hno i hlt'
      obtain ⟨l1, l2, l3, l4⟩ := hmf _ (List.getElem_mem hlt')
      have ilt : ((i : Int) < (m.length : Int)) = True := eq_true (by omega)
      generalize m[i] = f at *
      have ef : ffB f = (decide (f.2.1.length ≤ 10) && decide (f.1.2.1.length ≤ 6) && decide (f.1.1.size ≤ 30) && decide (f.2.2.2.2.length ≤ 4) && f.2.1.all frB) := rfl
      have g1 := gtI f.2.1.length 10 (K := 10) rfl
      have g2 := gtI f.1.2.1.length 6 (K := 6) rfl
      have g3 := gtI f.1.1.size 30 (K := 30) rfl
      have g4 := gtI f.2.2.2.2.length 4 (K := 4) rfl
      cases c1 : decide (f.2.1.length ≤ 10) with
      | false =>
        rw [c1] at g1
        rw [hno (by rw [ef, c1]; rfl)]
        simp only [go_sem, hel, ilt, g1]
        try omega
      | true =>
        rw [c1] at g1
        cases c2 : decide (f.1.2.1.length ≤ 6) with
        | false =>
          rw [c2] at g2
          rw [hno (by rw [ef, c1, c2]; rfl)]
          simp only [go_sem, hel, ilt, g1, g2]
          try omega
        | true =>
          rw [c2] at g2
          cases c3 : decide (f.1.1.size ≤ 30) with
          | false =>
            rw [c3] at g3
            rw [hno (by rw [ef, c1, c2, c3]; rfl)]
            simp only [go_sem, hel, ilt, g1, g2, g3]
            try omega
          | true =>
            rw [c3] at g3
            cases c4 : decide (f.2.2.2.2.length ≤ 4) with
            | false =>
              rw [c4] at g4
              rw [hno (by rw [ef, c1, c2, c3, c4]; rfl)]
              simp only [go_sem, hel, ilt, g1, g2, g3, g4]
              try omega
            | true =>
              rw [c4] at g4
              rw [c1, c2, c3, c4, Bool.true_and, Bool.true_and, Bool.true_and, Bool.true_and] at ef
              have hnr : f.2.1.all frB = false → fmB m = false := fun e => hno (by rw [ef, e])
              simp only [go_sem, hel, ilt, g1, g2, g3, g4]
              (repeat (refine And.intro (by omega) ?_))
              refine loop_inv (fun k : Nat => stL 119 [(0, .one (.t (eL cFu m))), (3, litI .i64 i), (4, litI .i64 k)] []) (fun k => k ≤ f.2.1.length ∧ (f.2.1.take k).all frB = true) (fun k => f.2.1.length - k) 0 ?_ ⟨Nat.zero_le _, by simp⟩ ?_
              · (refine gstep_list rfl ?_ ?_ ?_ ?_ <;> (try simp only [go_sem, tail_one]) <;> (try simp))
              · rintro k ⟨hk, hkv⟩
                simp only [go_sem, hel, ilt]
                (repeat (refine And.intro (by omega) ?_))
                refine CondR_if (fun klt => ?_) (fun kge => ?_)
                · have klt' : k < f.2.1.length := by omega
                  have kel : elemD cRw f.2.1 k = cRw f.2.1[k] := elemD_lt klt'
                  have ks := all_take_succ (p := frB) klt'
                  have kno := all_no (p := frB) klt'
                  have q1 := l4 _ (List.getElem_mem klt')
                  have klt2 : ((k : Int) < (f.2.1.length : Int)) = True := eq_true (by omega)
                  generalize f.2.1[k] = r at *
                  have er : frB r = (decide (r.1.length ≤ 6) && decide (r.2.2.2.length ≤ 4) && r.1.all v4) := rfl
                  have d1 := gtI r.1.length 6 (K := 6) rfl
                  have d2 := gtI r.2.2.2.length 4 (K := 4) rfl
                  cases b1 : decide (r.1.length ≤ 6) with
                  | false =>
                    rw [b1] at d1
                    rw [hnr (kno (by rw [er, b1]; rfl))]
                    simp only [go_sem, hel, ilt, kel, klt2, d1]
                    try omega
                  | true =>
                    rw [b1] at d1
                    cases b2 : decide (r.2.2.2.length ≤ 4) with
                    | false =>
                      rw [b2] at d2
                      rw [hnr (kno (by rw [er, b1, b2]; rfl))]
                      simp only [go_sem, hel, ilt, kel, klt2, d1, d2]
                      try omega
                    | true =>
                      rw [b2] at d2
                      rw [b1, b2, Bool.true_and, Bool.true_and] at er
                      simp only [go_sem, hel, ilt, kel, klt2, d1, d2]
                      (repeat (refine And.intro (by omega) ?_))
                      refine loop_inv (fun n : Nat => stL 119 [(0, .one (.t (eL cFu m))), (3, litI .i64 i), (4, litI .i64 k), (5, litI .i64 n)] []) (fun n => n ≤ r.1.length ∧ (r.1.take n).all v4 = true) (fun n => r.1.length - n) 0 ?_ ⟨Nat.zero_le _, by simp⟩ ?_
                      · (refine gstep_list rfl ?_ ?_ ?_ ?_ <;> (try simp only [go_sem, tail_one]) <;> (try simp))
                      · rintro n ⟨hn, hnv⟩
                        simp only [go_sem, hel, ilt, kel, klt2]
                        (repeat (refine And.intro (by omega) ?_))
                        refine CondR_if (fun nlt => ?_) (fun nge => ?_)
                        · have nlt' : n < r.1.length := by omega
                          have nel : elemD cV r.1 n = cV r.1[n] := elemD_lt nlt'
                          have ns := all_take_succ (p := v4) nlt'
                          have nno := all_no (p := v4) nlt'
                          have nlt2 : ((n : Int) < (r.1.length : Int)) = True := eq_true (by omega)
                          generalize r.1[n] = v at *
                          have d3 := gtI v.2.2.length 4 (K := 4) rfl
                          have ev4 : v4 v = decide (v.2.2.length ≤ 4) := rfl
                          cases b3 : decide (v.2.2.length ≤ 4) with
                          | false =>
                            rw [b3] at d3
                            rw [hnr (kno (by rw [er]; exact nno (by rw [ev4, b3])))]
                            simp only [go_sem, hel, ilt, kel, klt2, nel, nlt2, d3]
                            try omega
                          | true =>
                            rw [b3] at d3
                            simp only [go_sem, hel, ilt, kel, klt2, nel, nlt2, d3]
                            (repeat (refine And.intro (by omega) ?_))
                            refine ⟨n + 1, ⟨nlt', by rw [ns, hnv, ev4, b3]; rfl⟩, (by show r.1.length - (n + 1) < r.1.length - n; omega), ?_⟩
                            (refine gstep_list rfl ?_ ?_ ?_ ?_ <;> (try simp only [go_sem, tail_one, wrap_i64 (n := (n : Int) + 1) (by omega) (by omega)]) <;> (try simp))
                        · obtain rfl : n = r.1.length := by omega
                          rw [List.take_length] at hnv
                          simp only [go_sem]
                          refine ⟨k + 1, ⟨klt', by rw [ks, hkv, er, hnv]; rfl⟩, (by show f.2.1.length - (k + 1) < f.2.1.length - k; omega), ?_⟩
                          (refine gstep_list rfl ?_ ?_ ?_ ?_ <;> (try simp only [go_sem, tail_one, wrap_i64 (n := (k : Int) + 1) (by omega) (by omega)]) <;> (try simp))
                · obtain rfl : k = f.2.1.length := by omega
                  rw [List.take_length] at hkv
                  simp only [go_sem]
                  refine ⟨i + 1, ⟨hlt', by rw [hs, hinv, ef, hkv]; rfl⟩, (by show m.length - (i + 1) < m.length - i; omega), ?_⟩
                  (refine gstep_list rfl ?_ ?_ ?_ ?_ <;> (try simp only [go_sem, tail_one, wrap_i64 (n := (i : Int) + 1) (by omega) (by omega)]) <;> (try simp))
    · obtain rfl : i = m.length := by omega
      rw [List.take_length] at hinv
      have e : decide ((m.length : Int) ≤ 12) = decide (m.length ≤ 12) := decide_eq_decide.2 (by omega)
      rw [show fmB m = decide (m.length ≤ 12) by unfold fmB; rw [hinv]; rfl, ← e]
      simp only [go_sem]
end Go.Proofs.YtgnfgaioeldagaaGreat
namespace Go.Proofs.YtgnfgaioeldagaaGreat
open Go Go.Abs
set_option maxHeartbeats 8000000
/-! ### Numbers, constants -/
abbrev tmN (z : Int) : Tm := .mk 1 (encZ z) { data := #[] } 2 []
abbrev tmC (s : ByteArray) (r : Int) : Tm := .mk 4 zzI s r []
set_option maxRecDepth 100000 in
theorem num12 (n : Int) (h1 : -9223372036854775808 ≤ n) (h2 : n < 9223372036854775808) : PCall Tryz.prog 31 [tI .i64 n] (gT (tmN n)) := by
  refine pcall_of_wpA mixed Tryz.call31 Tryz.func31 rfl Tryz.ntmps31 Tryz.results31 (by simp) (by decide) ?_
  have h := i_Of n h1 h2
  simp only [go_sem]
  refine call_pure h rfl ?_
  simp only [go_sem, cT_eq]
  exact fz_Cs (.cons .t (.cons .t (.cons .t (.cons .t (.cons .t (.cons .weak .nil))))))
set_option maxRecDepth 100000 in
theorem con12 (s : ByteArray) (r : Int) : PCall Tryz.prog 38 [tS s, tI .i64 r] (gT (tmC s r)) := by
  refine pcall_of_wpA mixed Tryz.call38 Tryz.func38 rfl Tryz.ntmps38 Tryz.results38 (by simp) (by decide) ?_
  simp only [go_sem, cT_eq]
  exact fz_Cs (.cons .t (.cons .t (.cons .weak (.cons .t (.cons .t (.cons .weak .nil))))))
theorem KT_num (z : Int) (h : lN z ≤ 9223372036854775807) : KT (tmN z) := (KT_eq _).2 ⟨h, by simp [Tm.name, ByteArray.size], by simp [Tm.kids], fun k hk => by cases hk⟩
theorem FT_num (z : Int) (h : lN z ≤ 4) : FT (tmN z) := (FT_eq _).2 ⟨h, by simp [Tm.name, ByteArray.size], fun k hk => by cases hk⟩
theorem KT_con (s : ByteArray) (r : Int) (h : s.size ≤ 9223372036854775807) : KT (tmC s r) := (KT_eq _).2 ⟨by simp [Tm.num, zzI], h, by simp [Tm.kids], fun k hk => by cases hk⟩
theorem FT_con (s : ByteArray) (r : Int) (h : s.size ≤ 30) : FT (tmC s r) := (FT_eq _).2 ⟨by simp [Tm.num, zzI], h, fun k hk => by cases hk⟩
theorem nodes_num (z : Int) : (tmN z).nodes = 1 := rfl
theorem nodes_con (s : ByteArray) (r : Int) : (tmC s r).nodes = 1 := rfl
theorem isT_num (z : Int) : isT (tmN z) = true := by
  unfold isT
  rw [okT_eq, nodes_num]
  have : IsZ (encZ z) := IsZ_enc z
  show (true && (true && (decide (IsZ (encZ z)) && decide (({ data := #[] } : ByteArray) = ByteArray.empty) && true && true))) = true
  rw [decide_eq_true this]; rfl
theorem isT_con (s : ByteArray) (r : Int) (hs : symB s = true) (hr : sortB r = true) : isT (tmC s r) = true := by
  unfold isT
  rw [okT_eq, nodes_con]
  show (true && (true && (decide (zzI = zzI) && sigB (s, [], r)))) = true
  unfold sigB
  rw [hs, hr]; rfl
/-- A letter's own name. -/
theorem sym_one (c : UInt8) (h : signB c = true) (hd : digitB c = false) : symB { data := #[c] } = true := by
  unfold symB
  rw [ByteArray.toList_eq]
  show (true && true && ([c].all signB) && !(digitB c)) = true
  rw [hd]; simp [h]
end Go.Proofs.YtgnfgaioeldagaaGreat
namespace Go.Proofs.YtgnfgaioeldagaaGreat
open Go Go.Abs
set_option maxHeartbeats 8000000
/-! ### mullionlaw12.known -/
abbrev sX : ByteArray := { data := #[120] }
abbrev sP : ByteArray := { data := #[112] }
theorem symX : symB sX = true := sym_one 120 (by decide) (by decide)
theorem symP : symB sP = true := sym_one 112 (by decide) (by decide)
/-- A structure of one constant. -/
abbrev fOne (s : ByteArray) (v : VR) : Fu := ((s, [], v.1), [], v)
theorem put_nil (s : ByteArray) (v : VR) : putM [] s v = [fOne s v] := by
  show putF (heldM []) _ = _
  have : heldM [] = [] := by unfold heldM; split <;> rfl
  rw [this]; rfl
theorem isM_one {s : ByteArray} {v : VR} (hs : symB s = true) (hr : sortB v.1 = true) (hv : ofV v v.1 = true) : isM [fOne s v] = true := by
  show ((funB (fOne s v) && true) && true) = true
  unfold funB
  show ((sigB (s, [], v.1) && ofV v v.1 && true) && true && true) = true
  unfold sigB
  rw [hs, hv]
  show ((true && true && true && sortB v.1) && true && true && true && true) = true
  rw [hr]; rfl
theorem ofV_int (z : Int) : ofV (2, encZ z) 2 = true := by
  unfold ofV
  have := decide_eq_true (IsZ_enc z)
  rw [this]; rfl
theorem held_of {m : List Fu} (h : isM m = true) : heldM m = m := by unfold heldM; rw [if_pos h]
theorem app_one {s : ByteArray} {v : VR} : appF (s, [], v.1) [] [fOne s v] = v := by
  unfold appF
  rw [if_pos (show (fOne s v).1 = (s, [], v.1) from rfl)]
  rfl
theorem eval_con (s : ByteArray) (r : Int) (m : List Fu) : evalT m (tmC s r) = appF (s, [], r) [] m := by
  rw [evalT_eq]; rfl
theorem eval_num (z : Int) (m : List Fu) : evalT m (tmN z) = (2, encZ z) := by
  rw [evalT_eq]; rfl
theorem KM_lim {m : List Fu} (h : m.length < 1000000000) (h2 : ∀ f ∈ m, limFu f) : limM m := ⟨h, h2⟩
theorem lim_one {s : ByteArray} {v : VR} (hs : s.size < 1000) (hv : v.2.2.length ≤ 4) : limM [fOne s v] ∧ val4 [fOne s v] := by
  constructor
  · refine ⟨by show 1 < 1000000000; decide, fun f hf => ?_⟩
    obtain rfl := List.mem_singleton.1 hf
    exact ⟨by show s.size < _; omega, by show 0 < 1000000000; decide, by show 0 < 1000000000; decide, (fun r hr => by cases hr), by show v.2.2.length < 1000000000; omega⟩
  · intro f hf
    obtain rfl := List.mem_singleton.1 hf
    exact ⟨hv, fun r hr => by cases hr⟩
abbrev tK : Tm := .mk 17 zzI { data := #[] } 2 [tmC sX 2, tmN 2]
theorem isT_K : isT tK = true := by
  have h1 := isT_con sX 2 symX (by decide)
  have h2 := isT_num 2
  unfold isT at h1 h2 ⊢
  rw [Bool.and_eq_true] at h1 h2
  rw [okT_eq, okTs_all]
  have hn : tK.nodes = 3 := rfl
  rw [hn]
  show (true && ((okT (tmC sX 2) && (okT (tmN 2) && true)) && nodeB tK)) = true
  rw [h1.2, h2.2]
  show nodeB tK = true
  decide +kernel
theorem eval_K : evalM tK [fOne sX (2, encZ (-7))] = (2, encZ 1) := by
  unfold evalM
  rw [if_pos isT_K, held_of (isM_one symX (by decide) (ofV_int _)), evalT_eq]
  show evalN _ tK [evalT _ (tmC sX 2), evalT _ (tmN 2)] = _
  rw [eval_con, eval_num, app_one (s := sX) (v := (2, encZ (-7)))]
  show ((2 : Int), encZ (foldN 17 (zv (encZ (-7))) [(2, encZ 2)])) = _
  have e : foldN 17 (zv (encZ (-7))) [(2, encZ 2)] = 1 := by
    show zv (encZ (-7)) % zv (encZ 2) = 1
    rw [zv_enc, zv_enc]; decide
  rw [e]
theorem tw_K : TVW (.agg [.lit (.int .i64 17), .lit (.bool false), .seq (some true) [], .lit (.string { data := #[] }), .lit (.int .i64 2), .seq (some false) [cT (tmC sX 2), cT (tmN 2)]]) (gT tK) :=
  .agg (.cons .refl (.cons .refl (.cons .weak (.cons .refl (.cons .refl (.cons .weak .nil))))))
set_option maxRecDepth 100000 in
theorem known12 (hS : SmallSpec) (hI : IdxSpec) (hC : CmpSpec) : PCall Tryz.prog 8 [] (tB true) := by
  have l1 : lN (1 : Int) ≤ 1 := lN_small (by decide)
  have l2 : lN (2 : Int) ≤ 1 := lN_small (by decide)
  have l7 : lN (-7 : Int) ≤ 1 := lN_small (by decide)
  have nc := con12 sX 2
  have nn := num12 2 (by decide) (by decide)
  have o7 : PCall Tryz.prog 34 [tI .i64 (-7)] (eI (-7)) := i_Of (-7) (by decide) (by decide)
  have o1 : PCall Tryz.prog 34 [tI .i64 1] (eI 1) := i_Of 1 (by decide) (by decide)
  have hp := (v_Put hS hI hC [] sX (2, encZ (-7)) ⟨by decide, fun f hf => by cases hf⟩).tw (tvs' := [.one (.seq (some true) []), tS sX, gV (2, encZ (-7))]) (.cons (.one .weak) (.cons .refl1 (.cons .reflA .nil)))
  rw [put_nil] at hp
  have hm : isM [fOne sX (2, encZ (-7))] = true := isM_one symX (by decide) (ofV_int _)
  have hl := lim_one (s := sX) (v := (2, encZ (-7))) (by decide) (by show lN (-7) ≤ 4; omega)
  have hF : FT tK := (FT_eq _).2 ⟨by decide, by decide, fun k hk => by
    rcases List.mem_cons.1 hk with rfl | hk
    · exact FT_con _ _ (by decide)
    · obtain rfl := List.mem_singleton.1 hk; exact FT_num _ (by omega)⟩
  have hK : KT tK := (KT_eq _).2 ⟨by decide, by decide, by decide, fun k hk => by
    rcases List.mem_cons.1 hk with rfl | hk
    · exact KT_con _ _ (by decide)
    · obtain rfl := List.mem_singleton.1 hk; exact KT_num _ (by omega)⟩
  have he := (v_Eval hS hI tK [fOne sX (2, encZ (-7))] hF hK (by decide) hl.1 hl.2)
  rw [eval_K] at he
  have he := he.tw (tvs' := [_, tLF [fOne sX (2, encZ (-7))]]) (.cons tw_K (.cons .refl1 .nil))
  have his := v_Is hS hI [fOne sX (2, encZ (-7))] hl.1
  rw [hm] at his
  have q1 := tB_of (i_Equal_e 1 1 (by omega) (by omega)) rfl
  have q7 := tB_of (i_Equal_e (-7) (-7) (by omega) (by omega)) rfl
  have t0 := (v_True hS hI [] [] (by decide) (fun t ht => by cases ht) (fun t ht => by cases ht) (fun t ht => by cases ht) ⟨by decide, fun f hf => by cases hf⟩ (fun f hf => by cases hf)).tw (tvs' := [.one (.seq (some true) []), .one (.seq (some true) [])]) (.cons (.one .weak) (.cons (.one .weak) .nil))
  rw [show trueM [] [] = true from rfl] at t0
  have tp := (v_True hS hI [tmC sP 1] [fOne sX (2, encZ (-7))] (by show 1 < 1000000; decide) (fun t ht => by obtain rfl := List.mem_singleton.1 ht; exact FT_con _ _ (by decide)) (fun t ht => by obtain rfl := List.mem_singleton.1 ht; exact KT_con _ _ (by decide)) (fun t ht => by obtain rfl := List.mem_singleton.1 ht; decide) hl.1 hl.2).tw (tvs' := [.one (.seq (some false) [cT (tmC sP 1)]), tLF [fOne sX (2, encZ (-7))]]) (.cons (.one .weak) (.cons .refl1 .nil))
  rw [show trueM [tmC sP 1] [fOne sX (2, encZ (-7))] = false from by
    unfold trueM
    rw [List.all_cons, eval_con, held_of hm]
    show (isT (tmC sP 1) && true && yesV (1, zzI) && true) = false
    rw [show yesV (1, zzI) = false from by decide, Bool.and_false, Bool.false_and]] at tp
  have sv := v_Same (2, encZ 1) (2, encZ 1) (by show lN 1 < _; omega)
  rw [decide_eq_true rfl] at sv
  have ho := (v_Of hS hI [fOne sX (2, encZ (-7))] (sX, [], 2) [] hl.1 (by decide)).tw (tvs' := [tLF [fOne sX (2, encZ (-7))], gSg (sX, [], 2), .one (.seq (some true) [])]) (.cons .refl1 (.cons .reflA (.cons (.one .weak) .nil)))
  rw [held_of hm, app_one (s := sX) (v := (2, encZ (-7)))] at ho
  have np := con12 sP 1
  have hel : elemD cFu [fOne sX (2, encZ (-7))] 0 = cFu (fOne sX (2, encZ (-7))) := rfl
  have hlen : ([fOne sX (2, encZ (-7))] : List Fu).length = 1 := rfl
  generalize hmm : [fOne sX (2, encZ (-7))] = m at *
  refine pcall_of_wpA mixed Tryz.call8 Tryz.func8 rfl Tryz.ntmps8 Tryz.results8 (by simp) (by decide) ?_
  simp only [go_sem]
  ((repeat (refine regA_by 0 rfl ?_; simp only [go_sem, cT_eq, Tm.op, Tm.num, Tm.name, Tm.sort, Tm.kids, hel, hlen])); refine call_pure (nc) rfl ?_; simp only [go_sem, cT_eq, Tm.op, Tm.num, Tm.name, Tm.sort, Tm.kids, hel, hlen]; (repeat (refine regA_by 0 rfl ?_; simp only [go_sem, cT_eq, Tm.op, Tm.num, Tm.name, Tm.sort, Tm.kids, hel, hlen])); refine call_pure (nn) rfl ?_; simp only [go_sem, cT_eq, Tm.op, Tm.num, Tm.name, Tm.sort, Tm.kids, hel, hlen]; (repeat (refine regA_by 0 rfl ?_; simp only [go_sem, cT_eq, Tm.op, Tm.num, Tm.name, Tm.sort, Tm.kids, hel, hlen])); refine call_pure (o7) rfl ?_; simp only [go_sem, cT_eq, Tm.op, Tm.num, Tm.name, Tm.sort, Tm.kids, hel, hlen]; (repeat (refine regA_by 0 rfl ?_; simp only [go_sem, cT_eq, Tm.op, Tm.num, Tm.name, Tm.sort, Tm.kids, hel, hlen])); refine call_pure (hp) rfl ?_; simp only [go_sem, cT_eq, Tm.op, Tm.num, Tm.name, Tm.sort, Tm.kids, hel, hlen]; (repeat (refine regA_by 0 rfl ?_; simp only [go_sem, cT_eq, Tm.op, Tm.num, Tm.name, Tm.sort, Tm.kids, hel, hlen])); refine call_pure (he) rfl ?_; simp only [go_sem, cT_eq, Tm.op, Tm.num, Tm.name, Tm.sort, Tm.kids, hel, hlen]; (repeat (refine regA_by 0 rfl ?_; simp only [go_sem, cT_eq, Tm.op, Tm.num, Tm.name, Tm.sort, Tm.kids, hel, hlen])); refine call_pure (his) rfl ?_; simp only [go_sem, cT_eq, Tm.op, Tm.num, Tm.name, Tm.sort, Tm.kids, hel, hlen]; (repeat (refine regA_by 0 rfl ?_; simp only [go_sem, cT_eq, Tm.op, Tm.num, Tm.name, Tm.sort, Tm.kids, hel, hlen])); refine call_pure (o1) rfl ?_; simp only [go_sem, cT_eq, Tm.op, Tm.num, Tm.name, Tm.sort, Tm.kids, hel, hlen]; (repeat (refine regA_by 0 rfl ?_; simp only [go_sem, cT_eq, Tm.op, Tm.num, Tm.name, Tm.sort, Tm.kids, hel, hlen])); refine call_pure (q1) rfl ?_; simp only [go_sem, cT_eq, Tm.op, Tm.num, Tm.name, Tm.sort, Tm.kids, hel, hlen]; (repeat (refine regA_by 0 rfl ?_; simp only [go_sem, cT_eq, Tm.op, Tm.num, Tm.name, Tm.sort, Tm.kids, hel, hlen])); refine call_pure (t0) rfl ?_; simp only [go_sem, cT_eq, Tm.op, Tm.num, Tm.name, Tm.sort, Tm.kids, hel, hlen]; (repeat (refine regA_by 0 rfl ?_; simp only [go_sem, cT_eq, Tm.op, Tm.num, Tm.name, Tm.sort, Tm.kids, hel, hlen])); refine call_pure (np) rfl ?_; simp only [go_sem, cT_eq, Tm.op, Tm.num, Tm.name, Tm.sort, Tm.kids, hel, hlen]; (repeat (refine regA_by 0 rfl ?_; simp only [go_sem, cT_eq, Tm.op, Tm.num, Tm.name, Tm.sort, Tm.kids, hel, hlen])); refine call_pure (tp) rfl ?_; simp only [go_sem, cT_eq, Tm.op, Tm.num, Tm.name, Tm.sort, Tm.kids, hel, hlen]; (repeat (refine regA_by 0 rfl ?_; simp only [go_sem, cT_eq, Tm.op, Tm.num, Tm.name, Tm.sort, Tm.kids, hel, hlen])); refine call_pure (sv) rfl ?_; simp only [go_sem, cT_eq, Tm.op, Tm.num, Tm.name, Tm.sort, Tm.kids, hel, hlen]; (repeat (refine regA_by 0 rfl ?_; simp only [go_sem, cT_eq, Tm.op, Tm.num, Tm.name, Tm.sort, Tm.kids, hel, hlen])); refine call_pure (ho) rfl ?_; simp only [go_sem, cT_eq, Tm.op, Tm.num, Tm.name, Tm.sort, Tm.kids, hel, hlen]; (repeat (refine regA_by 0 rfl ?_; simp only [go_sem, cT_eq, Tm.op, Tm.num, Tm.name, Tm.sort, Tm.kids, hel, hlen])); refine call_pure (o7) rfl ?_; simp only [go_sem, cT_eq, Tm.op, Tm.num, Tm.name, Tm.sort, Tm.kids, hel, hlen]; (repeat (refine regA_by 0 rfl ?_; simp only [go_sem, cT_eq, Tm.op, Tm.num, Tm.name, Tm.sort, Tm.kids, hel, hlen])); refine call_pure (q7) rfl ?_; simp only [go_sem, cT_eq, Tm.op, Tm.num, Tm.name, Tm.sort, Tm.kids, hel, hlen]; (repeat (refine regA_by 0 rfl ?_; simp only [go_sem, cT_eq, Tm.op, Tm.num, Tm.name, Tm.sort, Tm.kids, hel, hlen])))
end Go.Proofs.YtgnfgaioeldagaaGreat
