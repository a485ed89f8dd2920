/- At every input the call answers true and leaves its arguments as they were; no conditions. -/
import Derived.Test.YtfgejnedaijjiaaGreatDa
set_option linter.unusedSimpArgs false
set_option linter.unusedVariables false
namespace Go.Proofs.YtfgejnedaijjiaaGreat
open Go Go.Abs
set_option maxHeartbeats 16000000
set_option maxRecDepth 100000 in
theorem s_column (S : SX) (r : Nat) {K : Nat} (hK : K ≤ 900) (hB : BdX K S) (hr : r < S.R) :
    MCall Tryz.prog 55 [.one (.ptr PIN 0), litI .i64 r] (xS S) (litI .i64 (argI (S.column r))) (xS S) := by
  have hdim := hB.dim
  refine mcall_of_wpX mixed Tryz.call55 Tryz.func55 rfl Tryz.ntmps55 Tryz.results55 (by simp) (by decide) ?_ ?_ ?_ ?_ ?_
  · exact slv_low S
  · exact fun b => Iff.rfl
  · exact slv_cl S
  · trivial
  · simp only [go_sem, PIN, xS, slvLo]
    refine loop_inv (fun i : Nat => stL 74 [(0, .one (.ptr 1000000 0)), (1, litI .i64 r), (5, litI .i64 (argI (argm (S.may r) S.cl i))), (14, .one (accC 1000002 1 (fnG S.n S.cl))), (15, litI .i64 S.n), (16, litI .i64 i)] (slvE 1000000 S []))
      (fun i => i ≤ S.n) (fun i => S.n - i) 0 ?_ (Nat.zero_le _) ?_
    · (refine gstep_list rfl ?_ ?_ ?_ ?_ <;> (try simp only [go_sem, tail_one]) <;> (try simp))
    · intro i hi
      simp only [go_sem]
      refine CondR_if (fun hlt => ?_) (fun hge => ?_)
      · have hlt' : i < S.n := by omega
        have hn : S.n ≠ 0 := by omega
        have hn0 : (S.n == 0) = false := beq_false_of_ne hn
        have hR : S.R ≠ 0 := by omega
        have a1 := cG_at (f := cI1) (sz := 1) (g := S.cl) (n := S.n) (i := i) cI1_len hlt'
        rw [Nat.mul_one] at a1
        have g2 := accG_ne (b := 1000002) (sz := 1) (g := S.cl) hn
        have g3 : cvC 1000003 S.R = .vec 1000003 1 0 S.R := cvC_ne hR
        have d1 : (cellsL cI1 (fnG S.n S.cl)).length = S.n := by rw [cG_len cI1_len, Nat.mul_one]
        have a3 : (rowsC 1000100 3 S.n S.R).drop r = .vec (1000100 + r) 3 0 S.n :: (rowsC 1000100 3 S.n S.R).drop (r + 1) := rowsC_at hr
        have a4 := cG_at (f := cR) (sz := 3) (g := S.a r) (n := S.n) (i := i) cR_len hlt'
        have hrI : ((r : Int) < (S.R : Int)) = True := eq_true (by omega)
        have hrN : (r < S.R) = True := eq_true hr
        have kf : lookH (slvE 1000000 S []) (1000100 + r) = some (cellsL cR (fnG S.n (S.a r))) := by rw [show (1000100 : Nat) = 1000000 + 100 from rfl, slvKf, if_pos hr]
        have hv := hB.cl i hlt'
        have hnx : argm (S.may r) S.cl (i + 1) = match argm (S.may r) S.cl i with
            | none => if S.may r i then some i else none
            | some o => if S.may r i && decide (S.cl i < S.cl o) then some i else some o := rfl
        have hol : ∀ q, argm (S.may r) S.cl i = some q → q < i := fun q h => argm_lt h
        have hov := hB.ov hv
        have ha := hB.a r i hr hlt'
        have hbd : S.may r i = (decide (0 < S.a r i) || (decide (S.a r i < 0) && (decide (S.cl i < S.n) || decide (S.ov (S.cl i) < 0)))) := rfl
        have hsk : S.may r i = false → argm (S.may r) S.cl (i + 1) = argm (S.may r) S.cl i := fun h => by
          rw [hnx, h]; cases argm (S.may r) S.cl i <;> rfl
        generalize ho : argm (S.may r) S.cl i = o at *
        have rd := rd_over S (S.cl i) (by omega) hB hv 1000000 (H := lookH (slvE 1000000 S [])) (by rw [AtS_self]; trivial)
        have sg := q_Sign_e (S.a r i) (by omega)
        have sg2 := q_Sign_e (S.ov (S.cl i)) (by omega)
        have negI : ∀ {v : Rat}, v < 0 ↔ v.num.sign < 0 := fun {v} => by
          rw [Int.sign_neg_iff]
          have h0 : (0 ≤ v) ↔ 0 ≤ v.num := Rat.num_nonneg.symm
          have h1 : v < 0 ↔ ¬ 0 ≤ v := Rat.not_le.symm
          rw [h1, h0]; omega
        have posI : 0 < S.a r i ↔ 0 < (S.a r i).num.sign := by rw [Int.sign_pos_iff, numPos2]
        simp only [go_sem, g2, a1, hlt, hn, hR, g3, a3, a4, hrI, hrN, kf]
        (repeat (refine And.intro (by omega) ?_))
        refine call_pure sg rfl ?_
        by_cases c1 : 0 < S.a r i
        · have c1' : (0 < (S.a r i).num.sign) = True := eq_true (posI.1 c1)
          have hb : S.may r i = true := by rw [hbd, decide_eq_true c1]; rfl
          simp only [go_sem, c1']
          rw [hb] at hnx
          cases o with
          | none =>
            have hnx : argm (S.may r) S.cl (i + 1) = some i := hnx
            simp only [go_sem]
            refine ⟨i + 1, hlt', (by show S.n - (i + 1) < S.n - i; omega), ?_⟩
            (refine gstep_list rfl ?_ ?_ ?_ ?_ <;> (try simp only [go_sem, tail_one, hnx, hn0, wrap_i64 (n := (i : Int) + 1) (by omega) (by omega)]) <;> (try simp))
          | some q =>
            have hr := hol q rfl
            have hr0 : ((q : Int) < 0) = False := eq_false (by omega)
            have hr1 : ((q : Int) < (S.n : Int)) = True := eq_true (by omega)
            have a2 := cG_at (f := cI1) (sz := 1) (g := S.cl) (n := S.n) (i := q) cI1_len (by omega)
            rw [Nat.mul_one] at a2
            have hnx : argm (S.may r) S.cl (i + 1) = if S.cl i < S.cl q then some i else some q := by
              rw [hnx]; show (if (true && decide (S.cl i < S.cl q)) = true then some i else some q) = _
              by_cases c : S.cl i < S.cl q <;> simp [c]
            simp only [go_sem, hr0, hr1, g2, a2, hn]
            (repeat (refine And.intro (by omega) ?_))
            by_cases c9 : S.cl i < S.cl q
            · have c9' : ((S.cl i : Int) < (S.cl q : Int)) = True := eq_true (by omega)
              rw [if_pos c9] at hnx
              simp only [go_sem, c9']
              refine ⟨i + 1, hlt', (by show S.n - (i + 1) < S.n - i; omega), ?_⟩
              (refine gstep_list rfl ?_ ?_ ?_ ?_ <;> (try simp only [go_sem, tail_one, hnx, hn0, wrap_i64 (n := (i : Int) + 1) (by omega) (by omega)]) <;> (try simp))
            · have c9' : ((S.cl i : Int) < (S.cl q : Int)) = False := eq_false (by omega)
              rw [if_neg c9] at hnx
              simp only [go_sem, c9']
              refine ⟨i + 1, hlt', (by show S.n - (i + 1) < S.n - i; omega), ?_⟩
              (refine gstep_list rfl ?_ ?_ ?_ ?_ <;> (try simp only [go_sem, tail_one, hnx, hn0, wrap_i64 (n := (i : Int) + 1) (by omega) (by omega)]) <;> (try simp))
        · have c1' : (0 < (S.a r i).num.sign) = False := eq_false (fun h => c1 (posI.2 h))
          by_cases c2 : S.a r i < 0
          · have c2' : ((S.a r i).num.sign < 0) = True := eq_true (negI.1 c2)
            by_cases c3 : S.cl i < S.n
            · have c3' : ((S.cl i : Int) < (S.n : Int)) = True := eq_true (by omega)
              have hb : S.may r i = true := by rw [hbd, decide_eq_true c2, decide_eq_true c3, Bool.true_or, Bool.true_and, Bool.or_true]
              simp only [go_sem, c1', c2', c3']
              rw [hb] at hnx
              cases o with
              | none =>
                have hnx : argm (S.may r) S.cl (i + 1) = some i := hnx
                simp only [go_sem]
                refine ⟨i + 1, hlt', (by show S.n - (i + 1) < S.n - i; omega), ?_⟩
                (refine gstep_list rfl ?_ ?_ ?_ ?_ <;> (try simp only [go_sem, tail_one, hnx, hn0, wrap_i64 (n := (i : Int) + 1) (by omega) (by omega)]) <;> (try simp))
              | some q =>
                have hr := hol q rfl
                have hr0 : ((q : Int) < 0) = False := eq_false (by omega)
                have hr1 : ((q : Int) < (S.n : Int)) = True := eq_true (by omega)
                have a2 := cG_at (f := cI1) (sz := 1) (g := S.cl) (n := S.n) (i := q) cI1_len (by omega)
                rw [Nat.mul_one] at a2
                have hnx : argm (S.may r) S.cl (i + 1) = if S.cl i < S.cl q then some i else some q := by
                  rw [hnx]; show (if (true && decide (S.cl i < S.cl q)) = true then some i else some q) = _
                  by_cases c : S.cl i < S.cl q <;> simp [c]
                simp only [go_sem, hr0, hr1, g2, a2, hn]
                (repeat (refine And.intro (by omega) ?_))
                by_cases c9 : S.cl i < S.cl q
                · have c9' : ((S.cl i : Int) < (S.cl q : Int)) = True := eq_true (by omega)
                  rw [if_pos c9] at hnx
                  simp only [go_sem, c9']
                  refine ⟨i + 1, hlt', (by show S.n - (i + 1) < S.n - i; omega), ?_⟩
                  (refine gstep_list rfl ?_ ?_ ?_ ?_ <;> (try simp only [go_sem, tail_one, hnx, hn0, wrap_i64 (n := (i : Int) + 1) (by omega) (by omega)]) <;> (try simp))
                · have c9' : ((S.cl i : Int) < (S.cl q : Int)) = False := eq_false (by omega)
                  rw [if_neg c9] at hnx
                  simp only [go_sem, c9']
                  refine ⟨i + 1, hlt', (by show S.n - (i + 1) < S.n - i; omega), ?_⟩
                  (refine gstep_list rfl ?_ ?_ ?_ ?_ <;> (try simp only [go_sem, tail_one, hnx, hn0, wrap_i64 (n := (i : Int) + 1) (by omega) (by omega)]) <;> (try simp))
            · have c3' : ((S.cl i : Int) < (S.n : Int)) = False := eq_false (by omega)
              simp only [go_sem, c1', c2', c3']
              refine call_rd2 (.inr rfl) rd ?_
              simp only [go_sem]
              refine call_pure sg2 rfl ?_
              by_cases c4 : S.ov (S.cl i) < 0
              · have c4' : ((S.ov (S.cl i)).num.sign < 0) = True := eq_true (negI.1 c4)
                have hb : S.may r i = true := by rw [hbd, decide_eq_true c2, decide_eq_true c4, Bool.or_true, Bool.true_and, Bool.or_true]
                simp only [go_sem, c4']
                rw [hb] at hnx
                cases o with
                | none =>
                  have hnx : argm (S.may r) S.cl (i + 1) = some i := hnx
                  simp only [go_sem]
                  refine ⟨i + 1, hlt', (by show S.n - (i + 1) < S.n - i; omega), ?_⟩
                  (refine gstep_list rfl ?_ ?_ ?_ ?_ <;> (try simp only [go_sem, tail_one, hnx, hn0, wrap_i64 (n := (i : Int) + 1) (by omega) (by omega)]) <;> (try simp))
                | some q =>
                  have hr := hol q rfl
                  have hr0 : ((q : Int) < 0) = False := eq_false (by omega)
                  have hr1 : ((q : Int) < (S.n : Int)) = True := eq_true (by omega)
                  have a2 := cG_at (f := cI1) (sz := 1) (g := S.cl) (n := S.n) (i := q) cI1_len (by omega)
                  rw [Nat.mul_one] at a2
                  have hnx : argm (S.may r) S.cl (i + 1) = if S.cl i < S.cl q then some i else some q := by
                    rw [hnx]; show (if (true && decide (S.cl i < S.cl q)) = true then some i else some q) = _
                    by_cases c : S.cl i < S.cl q <;> simp [c]
                  simp only [go_sem, hr0, hr1, g2, a2, hn]
                  (repeat (refine And.intro (by omega) ?_))
                  by_cases c9 : S.cl i < S.cl q
                  · have c9' : ((S.cl i : Int) < (S.cl q : Int)) = True := eq_true (by omega)
                    rw [if_pos c9] at hnx
                    simp only [go_sem, c9']
                    refine ⟨i + 1, hlt', (by show S.n - (i + 1) < S.n - i; omega), ?_⟩
                    (refine gstep_list rfl ?_ ?_ ?_ ?_ <;> (try simp only [go_sem, tail_one, hnx, hn0, wrap_i64 (n := (i : Int) + 1) (by omega) (by omega)]) <;> (try simp))
                  · have c9' : ((S.cl i : Int) < (S.cl q : Int)) = False := eq_false (by omega)
                    rw [if_neg c9] at hnx
                    simp only [go_sem, c9']
                    refine ⟨i + 1, hlt', (by show S.n - (i + 1) < S.n - i; omega), ?_⟩
                    (refine gstep_list rfl ?_ ?_ ?_ ?_ <;> (try simp only [go_sem, tail_one, hnx, hn0, wrap_i64 (n := (i : Int) + 1) (by omega) (by omega)]) <;> (try simp))
              · have c4' : ((S.ov (S.cl i)).num.sign < 0) = False := eq_false (fun h => c4 (negI.2 h))
                have hb : S.may r i = false := by rw [hbd, decide_eq_false c1, decide_eq_false c3, decide_eq_false c4, Bool.or_false, Bool.and_false, Bool.or_false]
                simp only [go_sem, c4']
                have hnx := hsk hb
                refine ⟨i + 1, hlt', (by show S.n - (i + 1) < S.n - i; omega), ?_⟩
                (refine gstep_list rfl ?_ ?_ ?_ ?_ <;> (try simp only [go_sem, tail_one, hnx, hn0, wrap_i64 (n := (i : Int) + 1) (by omega) (by omega)]) <;> (try simp))
          · have c2' : ((S.a r i).num.sign < 0) = False := eq_false (fun h => c2 (negI.2 h))
            have hb : S.may r i = false := by rw [hbd, decide_eq_false c1, decide_eq_false c2, Bool.false_and, Bool.or_false]
            simp only [go_sem, c1', c2']
            have hnx := hsk hb
            refine ⟨i + 1, hlt', (by show S.n - (i + 1) < S.n - i; omega), ?_⟩
            (refine gstep_list rfl ?_ ?_ ?_ ?_ <;> (try simp only [go_sem, tail_one, hnx, hn0, wrap_i64 (n := (i : Int) + 1) (by omega) (by omega)]) <;> (try simp))
      · obtain rfl : i = S.n := by omega
        rw [show argm (S.may r) S.cl S.n = S.column r from rfl]
        simp only [go_sem]
        exact xret1 (.inr rfl) trivial (by simp only [go_sem] <;> rfl) (fun _ _ => rfl)
end Go.Proofs.YtfgejnedaijjiaaGreat
namespace Go.Proofs.YtfgejnedaijjiaaGreat
open Go Go.Abs
set_option maxHeartbeats 16000000
theorem cG_sd {n : Nat} {g : Nat → Rat} {i : Nat} (hi : i < n) {q : Rat} : (cellsL cR (fnG n g)).take (i * 3) ++ C.t (.lit (.bool (decide (q.num < 0)))) :: C.t (eN (dig q.num.natAbs)) :: C.t (eN (dig q.den)) :: (cellsL cR (fnG n g)).drop (i * 3 + 3) = cellsL cR (fnG n (fun v => if v = i then q else g v)) := by
  rw [cR_sd (by rw [fnG_len]; exact hi), fnG_set]
theorem cG_len3 {n : Nat} {g : Nat → Rat} : (cellsL cR (fnG n g)).length = n * 3 := cG_len cR_len
theorem fC_in {S : SX} {t sz len : Nat} {x : T} (ht : t < PIN) {c : C} (h : inC (xS S) c) : fC t sz len x c = c := by
  have hne : ∀ b, xS S b ≠ none → b ≠ t := fun b hb e => by have := (xS_in hb).1; omega
  cases c with
  | t x => rfl
  | ptr b o => show (if b = t then _ else _) = _; rw [if_neg (hne b h)]
  | vec b s o n => show (if b = t then _ else _) = _; rw [if_neg (hne b h)]
  | fn f caps =>
    show (if caps.any (fun p => p.1 == t) then _ else _) = _
    rw [if_neg]
    intro h2
    obtain ⟨p, hp, e⟩ := List.any_eq_true.1 h2
    exact hne p.1 (h p hp) (beq_iff_eq.1 e)
theorem slvE_hi {S : SX} {e : List (Nat × List C)} (h : ∀ k ∈ e.map (·.1), k < PIN) {b : Nat} (hb : PIN ≤ b) : lookH (slvE PIN S e) b = xS S b := by
  unfold xS slvE
  rw [lookH_app, lookH_none (l := e) fun hm => by have := h b hm; omega, List.append_nil]
  cases lookH (slvL PIN S) b <;> rfl
theorem frz_slv {σ : St} {S : SX} {t sz len : Nat} {x : T} (ht : t < PIN) (h : ∀ b, PIN ≤ b → σ.H b = xS S b) : ∀ b, PIN ≤ b → (σ.frz t sz len x).H b = xS S b := fun b hb => by
  rw [frz_H, if_neg (by omega), h b hb]
  cases hx : xS S b with
  | none => rfl
  | some cs =>
    show some (cs.map _) = some cs
    congr 1
    have e : cs.map (fC t sz len x) = cs.map id := List.map_congr_left fun c hc => fC_in ht (slv_cl S b cs hx c hc)
    rw [e, List.map_id]
set_option maxRecDepth 100000 in
theorem s_reason (S : SX) (r : Nat) {K : Nat} (hK : K ≤ 900) (hB : BdX K S) (hr : r < S.R) (hrn : S.n ≤ S.rw r) :
    MCall Tryz.prog 56 [.one (.ptr PIN 0), litI .i64 r, litI .i64 S.R] (xS S) (.one (.t (eL cR (fnG S.R (outX S r S.n))))) (xS S) := by
  have hdim := hB.dim
  refine mcall_of_wpX mixed Tryz.call56 Tryz.func56 rfl Tryz.ntmps56 Tryz.results56 (by simp) (by decide) ?_ ?_ ?_ ?_ ?_
  · exact slv_low S
  · exact fun b => Iff.rfl
  · exact slv_cl S
  · trivial
  · have z := s_zero
    have hR : S.R ≠ 0 := by omega
    have hR0 : (S.R == 0) = false := beq_false_of_ne hR
    simp only [go_sem, PIN, xS, slvLo]
    (repeat (refine And.intro (by omega) ?_))
    refine loop_inv (fun i : Nat => stL 80 [(0, .one (.ptr 1000000 0)), (1, litI .i64 r), (7, .one (.vec 12 3 0 S.R)), (13, .one (.vec 12 3 0 S.R)), (14, litI .i64 S.R), (15, litI .i64 i)]
      (slvE 1000000 S [(12, cellsL cZ (((fnG S.R fun _ => (0 : Rat)).take i).map some ++ List.replicate (S.R - i) none))])) (fun i => i ≤ S.R) (fun i => S.R - i) 0 ?_ (Nat.zero_le _) ?_
    · rw [List.take_zero, Nat.sub_zero, List.map_nil, List.nil_append]
      refine GStep.trans (gstep_weakH 12 (cs := repl S.R z3) (by simp only [go_sem] <;> rfl) (weakL_z3 _)) ?_
      (refine gstep_list rfl ?_ ?_ ?_ ?_ <;> (try simp only [go_sem, tail_one, cellsL_refs, slvLo, AtS_upd, slv_ctl]) <;> (try simp))
    · intro i hi
      simp only [go_sem]
      refine CondR_if (fun hlt => ?_) (fun hge => ?_)
      · have hlt' : i < S.R := by omega
        have hlen : (fnG S.R fun _ => (0 : Rat)).length = S.R := fnG_len
        have hys : (((fnG S.R fun _ => (0 : Rat)).take i).map some ++ List.replicate (S.R - i) none).length = S.R := by simp [fnG_len]; omega
        have hnx := fill_next (l := fnG S.R fun _ => (0 : Rat)) (n := S.R) (i := i) (by rw [hlen]; exact hlt') (by omega)
        rw [fnG_get] at hnx
        generalize ((fnG S.R fun _ => (0 : Rat)).take i).map some ++ List.replicate (S.R - i) none = ys at *
        have hsd := cZ_sd (ys := ys) (i := i) (by omega) (q := 0)
        rw [hnx] at hsd
        simp only [go_sem, hlt]
        ((repeat (refine regA_by 0 rfl ?_; simp only [go_sem, hlt, slvLo])); refine call_pure (z) rfl ?_; simp only [go_sem, hlt, slvLo]; (repeat (refine regA_by 0 rfl ?_; simp only [go_sem, hlt, slvLo])))
        simp only [go_sem, hlt, cZ_clen, slvLo]
        (repeat (refine And.intro (by omega) ?_))
        refine ⟨i + 1, hlt', (by show S.R - (i + 1) < S.R - i; omega), ?_⟩
        (refine gstep_list rfl ?_ ?_ ?_ ?_ <;> (try simp only [go_sem, tail_one, cellsL_refs, slvLo, AtS_upd, slv_ctl, hsd, wrap_i64 (n := (i : Int) + 1) (by omega) (by omega)]) <;> (try simp))
      · obtain rfl : i = S.R := by omega
        rw [List.take_of_length_le (by rw [fnG_len]; exact Nat.le_refl _), Nat.sub_self, List.replicate_zero, List.append_nil, cZ_map]
        obtain ⟨j0, hj0⟩ : ∃ j, j = S.rw r - S.n := ⟨_, rfl⟩
        have hrl := hB.rw r hr
        have hjw : IntKind.i64.wrap ((S.rw r : Int) - (S.n : Int)) = (j0 : Int) := by rw [wrap_i64 (by omega) (by omega)]; omega
        have hj1 : ((j0 : Int) < (S.R : Int)) = True := eq_true (by omega)
        have hj2 : ((0 : Int) ≤ (j0 : Int)) = True := eq_true (by omega)
        have hrI : ((r : Int) < (S.R : Int)) = True := eq_true (by omega)
        have a1 := cG_at (f := cI1) (sz := 1) (g := S.rw) (n := S.R) (i := r) cI1_len hr
        rw [Nat.mul_one] at a1
        have g1 := accG_ne (b := 1000001) (sz := 1) (g := S.rw) hR
        have d1 : (cellsL cI1 (fnG S.R S.rw)).length = S.R := by rw [cG_len cI1_len, Nat.mul_one]
        have d2 : ∀ {g : Nat → Rat}, (cellsL cR (fnG S.R g)).length = S.R * 3 := cG_len3
        obtain ⟨u1, hu1⟩ : ∃ c : Int, c = 1 := ⟨_, rfl⟩
        have o1 : PCall Tryz.prog 91 [tI .i64 1] (eI u1) := by rw [hu1]; exact w_Of_e 1 (by decide) (by decide)
        have o2 : PCall Tryz.prog 75 [eI u1] (eQ 1) := by
          have := q_Of1_e u1 (by have : lN u1 ≤ 1 := lN_small (by omega); omega)
          rwa [show ((u1 : Int) : Rat) = 1 by rw [hu1]; rfl] at this
        have h0 : fnG S.R (fun v => if v = j0 then (1 : Rat) else 0) = fnG S.R (outX S r 0) := fnG_congr fun v _ => by
          show _ = if v = S.rw r - S.n then (1 : Rat) else 0
          rw [hj0]
        have sd := cG_sd (n := S.R) (g := fun _ => 0) (i := j0) (by omega) (q := 1)
        rw [h0] at sd
        simp only [go_sem]
        refine regA_by 0 rfl ?_
        simp only [go_sem, g1, a1, hR, hrI, slvLo, hjw, hj1, hj2]
        (repeat (refine And.intro (by omega) ?_))
        ((repeat (refine regA_by 0 rfl ?_; simp only [go_sem, slvLo, hR])); refine call_pure (o1) rfl ?_; simp only [go_sem, slvLo, hR]; (repeat (refine regA_by 0 rfl ?_; simp only [go_sem, slvLo, hR])); refine call_pure (o2) rfl ?_; simp only [go_sem, slvLo, hR]; (repeat (refine regA_by 0 rfl ?_; simp only [go_sem, slvLo, hR])))
        simp only [go_sem, d2, hj1, hj2, slvLo]
        (repeat (refine And.intro (by omega) ?_))
        refine loop_inv (fun c : Nat => stL 80 [(0, .one (.ptr 1000000 0)), (1, litI .i64 r), (7, .one (.vec 12 3 0 S.R)), (44, .one (accC 1000002 1 (fnG S.n S.cl))), (45, litI .i64 S.n), (46, litI .i64 c)]
          (slvE 1000000 S [(12, cellsL cR (fnG S.R (outX S r c)))])) (fun c => c ≤ S.n) (fun c => S.n - c) 0 ?_ (Nat.zero_le _) ?_
        · (refine gstep_list rfl ?_ ?_ ?_ ?_ <;> (try simp only [go_sem, tail_one, cellsL_refs, slvLo, AtS_upd, slv_ctl, sd]) <;> (try simp))
        · intro c hc
          simp only [go_sem]
          refine CondR_if (fun hlc => ?_) (fun hgc => ?_)
          · have hlc' : c < S.n := by omega
            have hn : S.n ≠ 0 := by omega
            have hn0 : (S.n == 0) = false := beq_false_of_ne hn
            have b1 := cG_at (f := cI1) (sz := 1) (g := S.cl) (n := S.n) (i := c) cI1_len hlc'
            rw [Nat.mul_one] at b1
            have g2 := accG_ne (b := 1000002) (sz := 1) (g := S.cl) hn
            have e1 : (cellsL cI1 (fnG S.n S.cl)).length = S.n := by rw [cG_len cI1_len, Nat.mul_one]
            have hcl := hB.cl c hlc'
            have hnx : outX S r (c + 1) = if S.n ≤ S.cl c then fun v => if v = S.cl c - S.n then -(S.a r c) else outX S r c v else outX S r c := rfl
            simp only [go_sem, g2, b1, hlc, hn, slvLo]
            (repeat (refine And.intro (by omega) ?_))
            by_cases c1 : S.n ≤ S.cl c
            · have c1' : ((S.n : Int) ≤ (S.cl c : Int)) = True := eq_true (by omega)
              rw [if_pos c1] at hnx
              obtain ⟨j, hj⟩ : ∃ j, j = S.cl c - S.n := ⟨_, rfl⟩
              rw [← hj] at hnx
              have hjw : IntKind.i64.wrap ((S.cl c : Int) - (S.n : Int)) = (j : Int) := by rw [wrap_i64 (by omega) (by omega)]; omega
              have hj1 : ((j : Int) < (S.R : Int)) = True := eq_true (by omega)
              have hj2 : ((0 : Int) ≤ (j : Int)) = True := eq_true (by omega)
              have g3 : cvC 1000003 S.R = .vec 1000003 1 0 S.R := cvC_ne hR
              have a3 : (rowsC 1000100 3 S.n S.R).drop r = .vec (1000100 + r) 3 0 S.n :: (rowsC 1000100 3 S.n S.R).drop (r + 1) := rowsC_at hr
              have a4 := cG_at (f := cR) (sz := 3) (g := S.a r) (n := S.n) (i := c) cR_len hlc'
              have kf : ∀ e, lookH (slvE 1000000 S e) (1000100 + r) = some (cellsL cR (fnG S.n (S.a r))) := fun e => by rw [show (1000100 : Nat) = 1000000 + 100 from rfl, slvKf, if_pos hr]
              have mi := q_Minus (S.a r c) (by have := hB.a r c hr hlc'; omega)
              have sd := cG_sd (n := S.R) (g := outX S r c) (i := j) (by omega) (q := -(S.a r c))
              rw [← hnx] at sd
              generalize outX S r c = g at *
              generalize hg' : outX S r (c + 1) = g' at *
              simp only [go_sem, c1']
              refine regA_by 0 rfl ?_
              simp only [go_sem, hR, hrI, slvLo, hjw, hj1, hj2, g3, a3, a4, kf, hlc]
              (repeat (refine And.intro (by omega) ?_))
              refine call_pure mi rfl ?_
              simp only [go_sem, d2, slvLo, hj1, hj2]
              (repeat (refine And.intro (by omega) ?_))
              refine ⟨c + 1, hlc', (by show S.n - (c + 1) < S.n - c; omega), ?_⟩
              (refine gstep_list rfl ?_ ?_ ?_ ?_ <;> (try simp only [go_sem, tail_one, cellsL_refs, slvLo, AtS_upd, slv_ctl, sd, hg', hn0, wrap_i64 (n := (c : Int) + 1) (by omega) (by omega)]) <;> (try simp))
            · have c1' : ((S.n : Int) ≤ (S.cl c : Int)) = False := eq_false (by omega)
              rw [if_neg c1] at hnx
              simp only [go_sem, c1']
              refine ⟨c + 1, hlc', (by show S.n - (c + 1) < S.n - c; omega), ?_⟩
              (refine gstep_list rfl ?_ ?_ ?_ ?_ <;> (try simp only [go_sem, tail_one, cellsL_refs, slvLo, AtS_upd, slv_ctl, hnx, hn0, wrap_i64 (n := (c : Int) + 1) (by omega) (by omega)]) <;> (try simp))
          · obtain rfl : c = S.n := by omega
            have hrt := s_rats (fnG S.R (outX S r S.n)) (by rw [fnG_len]; omega)
            simp only [go_sem]
            refine call_frz 12 3 S.R rfl hrt (by simp only [go_sem, slvLo] <;> rfl) (by have := treeOf_L (f := cR) (xs := fnG S.R (outX S r S.n)) cR_len; rwa [fnG_len] at this) (by simp only [go_sem] <;> rfl) ?_
            simp only [go_sem]
            exact xret1 (.inr rfl) trivial (by simp only [go_sem] <;> rfl) (frz_slv (by decide) fun b hb => slvE_hi (by intro k hk; simp at hk; subst hk; decide) hb)
end Go.Proofs.YtfgejnedaijjiaaGreat
