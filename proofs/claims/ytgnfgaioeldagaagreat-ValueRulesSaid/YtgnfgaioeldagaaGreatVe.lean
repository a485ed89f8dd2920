/- At every input the call answers true and leaves its arguments as they were; no conditions. -/
import Derived.Test.YtgnfgaioeldagaaGreatVd
set_option linter.unusedSimpArgs false
set_option linter.unusedVariables false
namespace Go.Proofs.YtgnfgaioeldagaaGreat
open Go Go.Abs
set_option maxHeartbeats 16000000
/-! ### Operators of numbers -/
def sumL : List VR → Nat
  | [] => 0
  | v :: l => v.2.2.length + 1 + sumL l
theorem lN_ediv (x y : Int) : lN (x / y) ≤ lN x := lN_le (Int.natAbs_ediv_le_natAbs x y)
theorem lN_zv (p : ZI) : lN (zv p) ≤ p.2.length := lN_iv p.1 p.2
def stepN (op a b : Int) : Int := if op = 13 then a + b else if op = 14 then a - b else if op = 15 then a * b else if op = 16 then a / b else a % b
theorem lN_step (op a b : Int) : lN (stepN op a b) ≤ lN a + lN b + 1 := by
  unfold stepN
  split
  · have := lN_add a b; omega
  · split
    · have := lN_sub a b; omega
    · split
      · have := lN_mul a b; omega
      · split
        · have := lN_ediv a b; omega
        · have := lN_emod a b; omega
theorem foldN_nil (op a : Int) : foldN op a [] = a := rfl
theorem foldN_cons (op a : Int) (v : VR) (l : List VR) : foldN op a (v :: l) = foldN op (stepN op a (zv v.2)) l := rfl
theorem foldN_snoc (op : Int) (v : VR) : ∀ (l : List VR) (a : Int), foldN op a (l ++ [v]) = stepN op (foldN op a l) (zv v.2)
  | [], a => rfl
  | x :: l, a => by rw [List.cons_append, foldN_cons, foldN_cons, foldN_snoc op v l]
theorem lN_fold (op : Int) : ∀ (l : List VR) (a : Int), lN (foldN op a l) ≤ lN a + sumL l
  | [], a => by rw [foldN_nil]; exact Nat.le_add_right _ _
  | v :: l, a => by
    rw [foldN_cons, sumL]
    have h1 := lN_fold op l (stepN op a (zv v.2))
    have h2 := lN_step op a (zv v.2)
    have h3 := lN_zv v.2
    omega
theorem sumL_take : ∀ (l : List VR) (i : Nat), sumL (l.take i) ≤ sumL l
  | [], i => by simp
  | v :: l, 0 => by simp [sumL]
  | v :: l, i + 1 => by have := sumL_take l i; simp only [List.take_succ_cons, sumL]; omega
theorem sumL_mem {v : VR} : ∀ {l : List VR}, v ∈ l → v.2.2.length + 1 ≤ sumL l
  | [], h => by cases h
  | x :: l, h => by
    rw [sumL]
    rcases List.mem_cons.1 h with rfl | h
    · omega
    · have := sumL_mem h; omega
theorem enc_len (z : Int) : (encZ z).2.length = lN z := rfl
theorem numV_len (op : Int) (l : List VR) (h : l ≠ []) : (numV op l).2.length ≤ sumL l := by
  obtain ⟨v, l', rfl⟩ : ∃ v l', l = v :: l' := by
    cases l with
    | nil => exact (h rfl).elim
    | cons v l' => exact ⟨v, l', rfl⟩
  have e : atV (v :: l') 0 = v := rfl
  have hz := lN_zv v.2
  unfold numV
  rw [e, sumL]
  split
  · rw [enc_len, lN_abs]; omega
  · split
    · rw [enc_len, lN_neg]; omega
    · split
      · omega
      · rw [enc_len]
        have := lN_fold op l' (zv v.2)
        show lN (foldN op (zv v.2) l') ≤ _
        omega
set_option maxRecDepth 100000 in
theorem v_number (op : Int) (l : List VR) (hne : l ≠ []) (hl : sumL l < 1000000000) : PCall Tryz.prog 91 [tI .i64 op, tLV l] (gI (numV op l).1 (numV op l).2) := by
  refine pcall_of_wpA mixed Tryz.call91 Tryz.func91 rfl Tryz.ntmps91 Tryz.results91 (by simp) (by decide) ?_
  obtain ⟨v, l', rfl⟩ : ∃ v l', l = v :: l' := by
    cases l with
    | nil => exact (hne rfl).elim
    | cons v l' => exact ⟨v, l', rfl⟩
  have hll : l'.length < 1000000000 := by
    have len : ∀ l : List VR, l.length ≤ sumL l := fun l => by
      induction l with
      | nil => simp
      | cons x l ih => rw [sumL, List.length_cons]; omega
    have := len l'
    rw [sumL] at hl; omega
  rw [sumL] at hl
  have e0 : atV (v :: l') 0 = v := rfl
  have g0 : elemD cV (v :: l') 0 = cV v := rfl
  have hz := lN_zv v.2
  by_cases c1 : op = 18
  · have f1 := decide_eq_true c1
    have h := w_Abs v.2.1 v.2.2 (by omega)
    have e : numV op (v :: l') = encZ ((zv v.2).natAbs : Int) := if_pos c1
    rw [e]
    simp only [go_sem, g0, f1]
    refine call_pure h rfl ?_
    simp only [go_sem]
    exact fz_Cs (.cons .t (.cons .t .nil))
  · have f1 := decide_eq_false c1
    by_cases c2 : op = 14 ∧ l' = []
    · obtain ⟨c2, rfl⟩ := c2
      have f2 := decide_eq_true c2
      have h := w_Neg v.2.1 v.2.2 (by omega)
      have e : numV op [v] = encZ (-(zv v.2)) := by unfold numV; rw [if_neg c1, if_pos ⟨c2, rfl⟩]; rfl
      rw [e]
      simp only [go_sem, g0, f1, f2]
      refine call_pure h rfl ?_
      simp only [go_sem]
      exact fz_Cs (.cons .t (.cons .t .nil))
    · obtain ⟨F, hF⟩ : ∃ F : Nat → Int, F = fun i => foldN op (zv v.2) (l'.take i) := ⟨_, rfl⟩
      obtain ⟨G, hG⟩ : ∃ G : Nat → ZI, G = fun i => if i = 0 then v.2 else encZ (F i) := ⟨_, rfl⟩
      have hG0 : G 0 = v.2 := by rw [hG]; rfl
      have hGs : ∀ i, G (i + 1) = encZ (F (i + 1)) := fun i => by rw [hG]; rfl
      have hGz : ∀ i, zv (G i) = F i := fun i => by
        cases i with
        | zero => rw [hG0, hF]; rfl
        | succ i => rw [hGs, zv_enc]
      have hFl : ∀ i, lN (F i) ≤ lN (zv v.2) + sumL l' := fun i => by
        rw [hF]
        have h1 := lN_fold op (l'.take i) (zv v.2)
        have h2 := sumL_take l' i
        show lN (foldN op (zv v.2) (l'.take i)) ≤ _
        omega
      have hGl : ∀ i, (G i).2.length ≤ v.2.2.length + sumL l' := fun i => by
        cases i with
        | zero => rw [hG0]; omega
        | succ i => rw [hGs, enc_len]; have := hFl (i + 1); omega
      have hR : numV op (v :: l') = G l'.length := by
        cases hl0 : l' with
        | nil =>
          subst hl0
          unfold numV
          rw [if_neg c1, if_neg (fun h => c2 ⟨h.1, rfl⟩), if_pos (show [v].length = 1 from rfl), e0]; exact hG0.symm
        | cons x l2 =>
          subst hl0
          unfold numV
          rw [if_neg c1, if_neg (fun h => by have := h.2; simp at this), if_neg (by simp), e0]
          show encZ (foldN op (zv v.2) (x :: l2)) = G (l2.length + 1)
          rw [hGs, hF]
          congr 2
          show x :: l2 = (x :: l2).take (l2.length + 1)
          rw [List.take_of_length_le (by simp)]
      rw [hR]
      have f2 : (decide (op = 14) && decide ((l'.length : Int) + 1 = 1)) = false := by
        rw [Bool.and_eq_false_iff]
        by_cases c : op = 14
        · right
          refine decide_eq_false fun h => c2 ⟨c, ?_⟩
          exact List.length_eq_zero_iff.1 (by omega)
        · exact .inl (decide_eq_false c)
      have sl : ((v :: l').take (l'.length + 1)).drop 1 = l' := by simp
      have len1' : ((1 : Nat) ≤ (v :: l').length) = True := eq_true (by simp)
      cases c14 : decide (op = 14) with
      | false =>
        simp only [go_sem, g0, f1, c14]
        (repeat (refine And.intro (by omega) ?_))
        refine loop_inv (fun i : Nat => stL 68 [(0, litI .i64 op), (4, .one (.ptr 4 0)), (5, .one (.ptr 5 0)), (30, .one (.t (eL cV l'))), (31, litI .i64 l'.length), (32, litI .i64 i)] [(4, [.t (.lit (.bool false)), .t (.seq (some true) [])]), (5, [.t (.lit (.bool (G i).1)), .t (eN (G i).2)])])
          (fun i => i ≤ l'.length) (fun i => l'.length - i) 0 ?_ (Nat.zero_le _) ?_
        · rw [hG0]
          (refine gstep_list rfl ?_ ?_ ?_ ?_ <;> (try simp only [go_sem, tail_one, sl, tail_one]) <;> (try simp))
        · intro i hi
          simp only [go_sem]
          refine CondR_if (fun hlt => ?_) (fun hge => ?_)
          · have hlt' : i < l'.length := by omega
            have hel : elemD cV l' i = cV l'[i] := elemD_lt hlt'
            have hnx : F (i + 1) = stepN op (F i) (zv l'[i].2) := by
              rw [hF]
              show foldN op (zv v.2) (l'.take (i + 1)) = _
              rw [List.take_succ_eq_append_getElem hlt', foldN_snoc]
            have hm := sumL_mem (List.getElem_mem hlt')
            have hgz := hGz i
            have hgl := hGl i
            have hgs := hGs i
            generalize l'[i] = x at *
            generalize hgi : G i = gi at *
            rw [← hgz] at hnx
            have hE := w_Euclid gi.1 gi.2 x.2.1 x.2.2 (by omega) (by omega)
            have hA := w_Add gi.1 gi.2 x.2.1 x.2.2 (by omega) (by omega)
            have hS := w_Sub gi.1 gi.2 x.2.1 x.2.2 (by omega) (by omega)
            have hM := w_Mul gi.1 gi.2 x.2.1 x.2.2 (by omega) (by omega)
            have fin : ∀ z : Int, stepN op (zv gi) (zv x.2) = z → G (i + 1) = encZ z := fun z h => by rw [hgs, hnx, h]
            unfold stepN at fin
            simp only [go_sem, hel]
            (repeat (refine And.intro (by omega) ?_))
            refine call_pure hE rfl ?_
            simp only [go_sem]
            by_cases d13 : op = 13
            · have e13 := decide_eq_true d13
              have fz := fin _ (if_pos d13)
              simp only [go_sem, e13]
              refine call_pure hA rfl ?_
              simp only [go_sem]
              refine ⟨i + 1, hlt', (by show l'.length - (i + 1) < l'.length - i; omega), ?_⟩
              (refine gstep_list rfl ?_ ?_ ?_ ?_ <;> (try simp only [go_sem, tail_one, fz, encZ, wrap_i64 (n := (i : Int) + 1) (by omega) (by omega)]) <;> (try simp))
            · have e13 := decide_eq_false d13
              rw [if_neg d13] at fin
              by_cases d14 : op = 14
              · have e14 := decide_eq_true d14
                have fz := fin _ (if_pos d14)
                simp only [go_sem, e13, e14]
                refine call_pure hS rfl ?_
                simp only [go_sem]
                refine ⟨i + 1, hlt', (by show l'.length - (i + 1) < l'.length - i; omega), ?_⟩
                (refine gstep_list rfl ?_ ?_ ?_ ?_ <;> (try simp only [go_sem, tail_one, fz, encZ, wrap_i64 (n := (i : Int) + 1) (by omega) (by omega)]) <;> (try simp))
              · have e14 := decide_eq_false d14
                rw [if_neg d14] at fin
                by_cases d15 : op = 15
                · have e15 := decide_eq_true d15
                  have fz := fin _ (if_pos d15)
                  simp only [go_sem, e13, e14, e15]
                  refine call_pure hM rfl ?_
                  simp only [go_sem]
                  refine ⟨i + 1, hlt', (by show l'.length - (i + 1) < l'.length - i; omega), ?_⟩
                  (refine gstep_list rfl ?_ ?_ ?_ ?_ <;> (try simp only [go_sem, tail_one, fz, encZ, wrap_i64 (n := (i : Int) + 1) (by omega) (by omega)]) <;> (try simp))
                · have e15 := decide_eq_false d15
                  rw [if_neg d15] at fin
                  by_cases d16 : op = 16
                  · have e16 := decide_eq_true d16
                    have fz := fin _ (if_pos d16)
                    simp only [go_sem, e13, e14, e15, e16]
                    refine ⟨i + 1, hlt', (by show l'.length - (i + 1) < l'.length - i; omega), ?_⟩
                    (refine gstep_list rfl ?_ ?_ ?_ ?_ <;> (try simp only [go_sem, tail_one, fz, encZ, wrap_i64 (n := (i : Int) + 1) (by omega) (by omega)]) <;> (try simp))
                  · have e16 := decide_eq_false d16
                    have fz := fin _ (if_neg d16)
                    simp only [go_sem, e13, e14, e15, e16]
                    refine ⟨i + 1, hlt', (by show l'.length - (i + 1) < l'.length - i; omega), ?_⟩
                    (refine gstep_list rfl ?_ ?_ ?_ ?_ <;> (try simp only [go_sem, tail_one, fz, encZ, wrap_i64 (n := (i : Int) + 1) (by omega) (by omega)]) <;> (try simp))
          · obtain rfl : i = l'.length := by omega
            simp only [go_sem]
            exact fz_Cs (.cons .t (.cons .t .nil))
      | true =>
        rw [c14, Bool.true_and] at f2
        simp only [go_sem, g0, f1, c14, f2]
        (repeat (refine And.intro (by omega) ?_))
        refine loop_inv (fun i : Nat => stL 68 [(0, litI .i64 op), (4, .one (.ptr 4 0)), (5, .one (.ptr 5 0)), (30, .one (.t (eL cV l'))), (31, litI .i64 l'.length), (32, litI .i64 i)] [(4, [.t (.lit (.bool false)), .t (.seq (some true) [])]), (5, [.t (.lit (.bool (G i).1)), .t (eN (G i).2)])])
          (fun i => i ≤ l'.length) (fun i => l'.length - i) 0 ?_ (Nat.zero_le _) ?_
        · rw [hG0]
          (refine gstep_list rfl ?_ ?_ ?_ ?_ <;> (try simp only [go_sem, tail_one, sl, tail_one]) <;> (try simp))
        · intro i hi
          simp only [go_sem]
          refine CondR_if (fun hlt => ?_) (fun hge => ?_)
          · have hlt' : i < l'.length := by omega
            have hel : elemD cV l' i = cV l'[i] := elemD_lt hlt'
            have hnx : F (i + 1) = stepN op (F i) (zv l'[i].2) := by
              rw [hF]
              show foldN op (zv v.2) (l'.take (i + 1)) = _
              rw [List.take_succ_eq_append_getElem hlt', foldN_snoc]
            have hm := sumL_mem (List.getElem_mem hlt')
            have hgz := hGz i
            have hgl := hGl i
            have hgs := hGs i
            generalize l'[i] = x at *
            generalize hgi : G i = gi at *
            rw [← hgz] at hnx
            have hE := w_Euclid gi.1 gi.2 x.2.1 x.2.2 (by omega) (by omega)
            have hA := w_Add gi.1 gi.2 x.2.1 x.2.2 (by omega) (by omega)
            have hS := w_Sub gi.1 gi.2 x.2.1 x.2.2 (by omega) (by omega)
            have hM := w_Mul gi.1 gi.2 x.2.1 x.2.2 (by omega) (by omega)
            have fin : ∀ z : Int, stepN op (zv gi) (zv x.2) = z → G (i + 1) = encZ z := fun z h => by rw [hgs, hnx, h]
            unfold stepN at fin
            simp only [go_sem, hel]
            (repeat (refine And.intro (by omega) ?_))
            refine call_pure hE rfl ?_
            simp only [go_sem]
            by_cases d13 : op = 13
            · have e13 := decide_eq_true d13
              have fz := fin _ (if_pos d13)
              simp only [go_sem, e13]
              refine call_pure hA rfl ?_
              simp only [go_sem]
              refine ⟨i + 1, hlt', (by show l'.length - (i + 1) < l'.length - i; omega), ?_⟩
              (refine gstep_list rfl ?_ ?_ ?_ ?_ <;> (try simp only [go_sem, tail_one, fz, encZ, wrap_i64 (n := (i : Int) + 1) (by omega) (by omega)]) <;> (try simp))
            · have e13 := decide_eq_false d13
              rw [if_neg d13] at fin
              by_cases d14 : op = 14
              · have e14 := decide_eq_true d14
                have fz := fin _ (if_pos d14)
                simp only [go_sem, e13, e14]
                refine call_pure hS rfl ?_
                simp only [go_sem]
                refine ⟨i + 1, hlt', (by show l'.length - (i + 1) < l'.length - i; omega), ?_⟩
                (refine gstep_list rfl ?_ ?_ ?_ ?_ <;> (try simp only [go_sem, tail_one, fz, encZ, wrap_i64 (n := (i : Int) + 1) (by omega) (by omega)]) <;> (try simp))
              · have e14 := decide_eq_false d14
                rw [if_neg d14] at fin
                by_cases d15 : op = 15
                · have e15 := decide_eq_true d15
                  have fz := fin _ (if_pos d15)
                  simp only [go_sem, e13, e14, e15]
                  refine call_pure hM rfl ?_
                  simp only [go_sem]
                  refine ⟨i + 1, hlt', (by show l'.length - (i + 1) < l'.length - i; omega), ?_⟩
                  (refine gstep_list rfl ?_ ?_ ?_ ?_ <;> (try simp only [go_sem, tail_one, fz, encZ, wrap_i64 (n := (i : Int) + 1) (by omega) (by omega)]) <;> (try simp))
                · have e15 := decide_eq_false d15
                  rw [if_neg d15] at fin
                  by_cases d16 : op = 16
                  · have e16 := decide_eq_true d16
                    have fz := fin _ (if_pos d16)
                    simp only [go_sem, e13, e14, e15, e16]
                    refine ⟨i + 1, hlt', (by show l'.length - (i + 1) < l'.length - i; omega), ?_⟩
                    (refine gstep_list rfl ?_ ?_ ?_ ?_ <;> (try simp only [go_sem, tail_one, fz, encZ, wrap_i64 (n := (i : Int) + 1) (by omega) (by omega)]) <;> (try simp))
                  · have e16 := decide_eq_false d16
                    have fz := fin _ (if_neg d16)
                    simp only [go_sem, e13, e14, e15, e16]
                    refine ⟨i + 1, hlt', (by show l'.length - (i + 1) < l'.length - i; omega), ?_⟩
                    (refine gstep_list rfl ?_ ?_ ?_ ?_ <;> (try simp only [go_sem, tail_one, fz, encZ, wrap_i64 (n := (i : Int) + 1) (by omega) (by omega)]) <;> (try simp))
          · obtain rfl : i = l'.length := by omega
            simp only [go_sem]
            exact fz_Cs (.cons .t (.cons .t .nil))
end Go.Proofs.YtgnfgaioeldagaaGreat
namespace Go.Proofs.YtgnfgaioeldagaaGreat
open Go Go.Abs
set_option maxHeartbeats 16000000
theorem twiceV_append {a b : List VR} (h : twiceV a = true) : twiceV (a ++ b) = true := by
  induction a with
  | nil => cases h
  | cons x a ih =>
    simp only [List.cons_append, twiceV, Bool.or_eq_true] at h ⊢
    rcases h with h | h
    · left
      rw [List.contains_iff_mem] at h ⊢
      exact List.mem_append_left _ h
    · exact .inr (ih h)
theorem twiceV_snoc (a : List VR) (x : VR) : twiceV (a ++ [x]) = (twiceV a || a.contains x) := by
  induction a with
  | nil => simp [twiceV]
  | cons y a ih =>
    simp only [List.cons_append, twiceV, ih]
    have e1 : (a ++ [x]).contains y = (a.contains y || decide (y = x)) := by
      rw [Bool.eq_iff_iff]; simp
    have e2 : (y :: a).contains x = (decide (y = x) || a.contains x) := by
      rw [List.contains_cons]
      congr 1
      rw [Bool.eq_iff_iff]
      simp only [beq_iff_eq, decide_eq_true_eq]
      exact eq_comm
    rw [e1, e2]
    cases a.contains y <;> cases twiceV a <;> cases decide (y = x) <;> simp
theorem any_has (l : List VR) (v : VR) : (l.any fun x => decide (v = x)) = l.contains v := by
  rw [Bool.eq_iff_iff, List.any_eq_true, List.contains_iff_mem]
  exact ⟨fun ⟨x, h, e⟩ => by rw [of_decide_eq_true e]; exact h, fun h => ⟨v, h, decide_eq_true rfl⟩⟩
set_option maxRecDepth 100000 in
theorem v_twice1 (v x : VR) (hv : limV v) : PCall Tryz.prog 149 [gV x, .ip (cV v)] (tB (decide (v = x))) := by
  refine pcall_of_wpA mixed Tryz.call149 Tryz.func149 rfl Tryz.ntmps149 Tryz.results149 (by simp) (by decide) ?_
  have h := v_Same v x (by unfold limV at hv; omega)
  simp only [go_sem]
  refine call_pure h rfl ?_
  simp only [go_sem]
set_option maxRecDepth 100000 in
theorem v_twice (l : List VR) (hl : l.length < 1000000000) (hv : ∀ v ∈ l, limV v) : PCall Tryz.prog 130 [tLV l] (tB (twiceV l)) := by
  refine pcall_of_wpA mixed Tryz.call130 Tryz.func130 rfl Tryz.ntmps130 Tryz.results130 (by simp) (by decide) ?_
  simp only [go_sem]
  refine loop_inv (fun i : Nat => stL 18 [(0, .one (.t (eL cV l))), (5, .one (.t (eL cV l))), (6, litI .i64 l.length), (7, litI .i64 i)] []) (fun i => i ≤ l.length ∧ twiceV (l.take i) = false) (fun i => l.length - i) 0 ?_ ⟨Nat.zero_le _, by simp [twiceV]⟩ ?_
  · (refine gstep_list rfl ?_ ?_ ?_ ?_ <;> (try simp only [go_sem, tail_one]) <;> (try simp))
  · rintro i ⟨hi, hinv⟩
    simp only [go_sem]
    refine CondR_if (fun hlt => ?_) (fun hge => ?_)
    · have hlt' : i < l.length := by omega
      have hel : elemD cV l i = cV l[i] := elemD_lt hlt'
      have h := s_HasVal (l.take i) (by rw [List.length_take]; omega) 149 [cV l[i]] (fun x => decide (l[i] = x)) (fun x _ => v_twice1 l[i] x (hv _ (List.getElem_mem hlt')))
      rw [any_has] at h
      have hsn := twiceV_snoc (l.take i) l[i]
      rw [← List.take_succ_eq_append_getElem hlt', hinv, Bool.false_or] at hsn
      have happ : twiceV (l.take (i + 1)) = true → twiceV l = true := fun h => by
        have := twiceV_append (b := l.drop (i + 1)) h
        rwa [List.take_append_drop] at this
      generalize l[i] = x at *
      generalize (l.take i).contains x = q at *
      have hi0 : ((0 : Int) ≤ (i : Int)) = True := eq_true (by omega)
      simp only [go_sem, hel, hi0, Int.toNat_natCast]
      (repeat (refine And.intro (by omega) ?_))
      refine call_clo [(4, cV x)] rfl h (by simp only [go_sem] <;> simp) (by simp only [go_sem] <;> rfl) ?_
      cases q with
      | true =>
        rw [happ hsn]
        simp only [go_sem]
      | false =>
        simp only [go_sem]
        refine ⟨i + 1, ⟨hlt', hsn⟩, (by show l.length - (i + 1) < l.length - i; omega), ?_⟩
        (refine gstep_list rfl ?_ ?_ ?_ ?_ <;> (try simp only [go_sem, tail_one, wrap_i64 (n := (i : Int) + 1) (by omega) (by omega)]) <;> (try simp))
    · obtain rfl : i = l.length := by omega
      rw [List.take_length] at hinv
      rw [hinv]
      simp only [go_sem]
set_option maxRecDepth 100000 in
theorem v_holds1 (v : VR) (hv : limV v) : PCall Tryz.prog 128 [gV v] (tB (!(yesV v))) := by
  refine pcall_of_wpA mixed Tryz.call128 Tryz.func128 rfl Tryz.ntmps128 Tryz.results128 (by simp) (by decide) ?_
  have h := v_yes v hv
  simp only [go_sem]
  refine call_pure h rfl ?_
  simp only [go_sem]
theorem cmp_le (a b : Int) : decide (cmpI a b ≤ 0) = decide (a ≤ b) := by
  refine decide_eq_decide.2 ?_
  unfold cmpI
  split
  · omega
  · split <;> omega
theorem cmp_lt (a b : Int) : decide (cmpI a b < 0) = decide (a < b) := by
  refine decide_eq_decide.2 ?_
  unfold cmpI
  split
  · omega
  · split <;> omega
theorem cmp_ge (a b : Int) : decide (0 ≤ cmpI a b) = decide (b ≤ a) := by
  refine decide_eq_decide.2 ?_
  unfold cmpI
  split
  · omega
  · split <;> omega
theorem cmp_gt (a b : Int) : decide (0 < cmpI a b) = decide (b < a) := by
  refine decide_eq_decide.2 ?_
  unfold cmpI
  split
  · omega
  · split <;> omega
set_option maxRecDepth 100000 in
theorem v_holds (op : Int) (l : List VR) (hop : op = 5 ∨ op = 6 ∨ op = 7 ∨ op = 8 ∨ op = 9 ∨ op = 10 ∨ op = 11 ∨ op = 19 ∨ op = 20 ∨ op = 21 ∨ op = 22) (hk : kidsB op l.length = true) (hl : l.length < 1000000000) (hv : ∀ v ∈ l, limV v) :
    PCall Tryz.prog 92 [tI .i64 op, tLV l] (tB (holdsV op l)) := by
  refine pcall_of_wpA mixed Tryz.call92 Tryz.func92 rfl Tryz.ntmps92 Tryz.results92 (by simp) (by decide) ?_
  have two : ∀ {a b : VR}, l = [a, b] → (limV a ∧ limV b) ∧ elemD cV [a, b] 0 = cV a ∧ elemD cV [a, b] 1 = cV b := fun {a b} e => by
    subst e; exact ⟨⟨hv a (by simp), hv b (by simp)⟩, rfl, rfl⟩
  rcases hop with rfl | rfl | rfl | rfl | rfl | rfl | rfl | hcmp
  · obtain ⟨a, rfl⟩ := len1 (l := l) (by simpa [kidsB] using hk)
    have h := v_holds1 a (hv a (by simp))
    have g0 : elemD cV [a] 0 = cV a := rfl
    show wpA _ _ (retQ _ _ (tB (!(yesV a)))) _
    simp only [go_sem, g0]
    refine call_pure h rfl ?_
    simp only [go_sem]
  · have h := s_HasVal l hl 128 [] (fun v => !(yesV v)) (fun v hm => v_holds1 v (hv v hm))
    rw [any_not] at h
    show wpA _ _ (retQ _ _ (tB (l.all yesV))) _
    simp only [go_sem]
    refine call_clo [] rfl h trivial (by simp only [go_sem] <;> rfl) ?_
    simp only [go_sem]
  · have h := s_HasVal l hl 57 [] yesV (fun v hm => v_yes v (hv v hm))
    show wpA _ _ (retQ _ _ (tB (l.any yesV))) _
    simp only [go_sem]
    refine call_clo [] rfl h trivial (by simp only [go_sem] <;> rfl) ?_
    simp only [go_sem]
  · obtain ⟨a, b, rfl⟩ := len2 (l := l) (by simpa [kidsB] using hk)
    obtain ⟨⟨la, lb⟩, g0, g1⟩ := two rfl
    have h1 := v_yes a la
    have h2 := v_yes b lb
    show wpA _ _ (retQ _ _ (tB (yesV a != yesV b))) _
    simp only [go_sem, g0, g1]
    refine regA_by 0 rfl ?_
    simp only [go_sem, g0, g1]
    refine call_pure h1 rfl ?_
    simp only [go_sem, g0, g1]
    refine call_pure h2 rfl ?_
    simp only [go_sem]
    try rfl
  · obtain ⟨a, b, rfl⟩ := len2 (l := l) (by simpa [kidsB] using hk)
    obtain ⟨⟨la, lb⟩, g0, g1⟩ := two rfl
    have h1 := v_holds1 a la
    have h2 := v_yes b lb
    show wpA _ _ (retQ _ _ (tB (!(yesV a) || yesV b))) _
    simp only [go_sem, g0, g1]
    refine call_pure h1 rfl ?_
    cases c : yesV a with
    | true =>
      simp only [go_sem, g0, g1]
      refine call_pure h2 rfl ?_
      simp only [go_sem]
    | false => simp only [go_sem]
  · obtain ⟨a, b, rfl⟩ := len2 (l := l) (by simpa [kidsB] using hk)
    obtain ⟨⟨la, lb⟩, g0, g1⟩ := two rfl
    have h1 := v_Same a b (by unfold limV at la; omega)
    show wpA _ _ (retQ _ _ (tB (decide (a = b)))) _
    simp only [go_sem, g0, g1]
    refine regA_by 0 rfl ?_
    simp only [go_sem, g0, g1]
    refine call_pure h1 rfl ?_
    simp only [go_sem]
  · have h := v_twice l hl hv
    show wpA _ _ (retQ _ _ (tB (!(twiceV l)))) _
    simp only [go_sem]
    refine call_pure h rfl ?_
    simp only [go_sem]
  · obtain ⟨a, b, rfl⟩ := len2 (l := l) (by rcases hcmp with rfl | rfl | rfl | rfl <;> simpa [kidsB] using hk)
    obtain ⟨⟨la, lb⟩, g0, g1⟩ := two rfl
    have h1 := w_Cmp a.2.1 a.2.2 b.2.1 b.2.2 (by unfold limV at la; omega) (by unfold limV at lb; omega)
    have p1 := cmp_le (iv a.2.1 a.2.2) (iv b.2.1 b.2.2)
    have p2 := cmp_lt (iv a.2.1 a.2.2) (iv b.2.1 b.2.2)
    have p3 := cmp_ge (iv a.2.1 a.2.2) (iv b.2.1 b.2.2)
    have p4 := cmp_gt (iv a.2.1 a.2.2) (iv b.2.1 b.2.2)
    generalize cmpI (iv a.2.1 a.2.2) (iv b.2.1 b.2.2) = n at *
    rcases hcmp with rfl | rfl | rfl | rfl
    · show wpA _ _ (retQ _ _ (tB (decide (iv a.2.1 a.2.2 ≤ iv b.2.1 b.2.2)))) _
      rw [← p1]
      simp only [go_sem, g0, g1]
      refine regA_by 0 rfl ?_
      simp only [go_sem, g0, g1]
      refine call_pure h1 rfl ?_
      simp only [go_sem]
    · show wpA _ _ (retQ _ _ (tB (decide (iv a.2.1 a.2.2 < iv b.2.1 b.2.2)))) _
      rw [← p2]
      simp only [go_sem, g0, g1]
      refine regA_by 0 rfl ?_
      simp only [go_sem, g0, g1]
      refine call_pure h1 rfl ?_
      simp only [go_sem]
    · show wpA _ _ (retQ _ _ (tB (decide (iv b.2.1 b.2.2 ≤ iv a.2.1 a.2.2)))) _
      rw [← p3]
      simp only [go_sem, g0, g1]
      refine regA_by 0 rfl ?_
      simp only [go_sem, g0, g1]
      refine call_pure h1 rfl ?_
      simp only [go_sem]
    · show wpA _ _ (retQ _ _ (tB (decide (iv b.2.1 b.2.2 < iv a.2.1 a.2.2)))) _
      rw [← p4]
      simp only [go_sem, g0, g1]
      refine regA_by 0 rfl ?_
      simp only [go_sem, g0, g1]
      refine call_pure h1 rfl ?_
      simp only [go_sem]
end Go.Proofs.YtgnfgaioeldagaaGreat
namespace Go.Proofs.YtgnfgaioeldagaaGreat
open Go Go.Abs
set_option maxHeartbeats 16000000
/-- The values in a structure are short. -/
def val4 (m : List Fu) : Prop := ∀ f ∈ m, f.2.2.2.2.length ≤ 4 ∧ ∀ r ∈ f.2.1, r.2.2.2.length ≤ 4
theorem rowF_len {l : List VR} {e : VR} (he : e.2.2.length ≤ 4) : ∀ {rs : List Rw}, (∀ r ∈ rs, r.2.2.2.length ≤ 4) → (rowF l e rs).2.2.length ≤ 4
  | [], _ => he
  | r :: rs, h => by
    unfold rowF
    split
    · exact h r (List.mem_cons_self ..)
    · exact rowF_len he fun r hr => h r (List.mem_cons_of_mem _ hr)
theorem appF_len {s : Sg} {l : List VR} : ∀ {m : List Fu}, val4 m → (appF s l m).2.2.length ≤ 4
  | [], _ => by simp [appF, zzI]
  | f :: m, h => by
    unfold appF
    have h1 := h f (List.mem_cons_self ..)
    split
    · exact rowF_len h1.1 h1.2
    · exact appF_len fun g hg => h g (List.mem_cons_of_mem _ hg)
theorem boolV_len (b : Bool) : (boolV b).2.2.length ≤ 1 := by
  cases b
  · simp [boolV, zzI]
  · show lN 1 ≤ 1
    exact lN_small (by decide)
theorem sumL_map {m : List Fu} {l : List Tm} (h : ∀ t ∈ l, (evalT m t).2.2.length + 1 ≤ 6 * t.nodes) : sumL (l.map (evalT m)) ≤ 6 * nodesL l := by
  induction l with
  | nil => simp [sumL]
  | cons t l ih =>
    rw [List.map_cons, sumL, nodesL_cons]
    have h1 := h t (List.mem_cons_self ..)
    have h2 := ih fun t ht => h t (List.mem_cons_of_mem _ ht)
    omega
theorem atV_len {l : List VR} {i : Nat} : (atV l i).2.2.length ≤ sumL l := by
  unfold atV
  split
  · rename_i v hv
    have := sumL_mem (List.mem_of_getElem? hv); omega
  · simp [zzI]
theorem node_op {t : Tm} (h : okT t = true) (c : ¬ (t.op = 1 ∨ t.op = 2 ∨ t.op = 3 ∨ t.op = 4)) : (5 ≤ t.op ∧ t.op ≤ 22) ∧ kidsB t.op t.kids.length = true ∧ t.sort = sortR t.op t.kids ∧ wrongE t.op t.kids = 0 := by
  rw [okT_all, Bool.and_eq_true] at h
  have h := h.2
  unfold nodeB at h
  rw [if_neg (by omega), if_neg (by omega), if_neg (by omega)] at h
  simp only [Bool.and_eq_true, decide_eq_true_eq] at h
  refine ⟨?_, h.1.1.2, h.2, h.1.2⟩
  have := h.1.1.1.1
  unfold madeB at this
  simpa using this
theorem okT_kids {t : Tm} (h : okT t = true) : ∀ k ∈ t.kids, okT k = true := by
  rw [okT_all, Bool.and_eq_true] at h
  exact fun k hk => List.all_eq_true.1 h.1 k hk
/-- One term within another. -/
inductive Sub : Tm → Tm → Prop where
  | refl (t : Tm) : Sub t t
  | kid {u t k : Tm} : k ∈ t.kids → Sub u k → Sub u t
/-- The functions that a term has tell short values. -/
def VT (m : List Fu) (t : Tm) : Prop := ∀ u, Sub u t → u.op = 4 → ∀ l, (appF (sgT u) l m).2.2.length ≤ 4
theorem VT.kid {m : List Fu} {t k : Tm} (h : VT m t) (hk : k ∈ t.kids) : VT m k := fun u hu => h u (.kid hk hu)
theorem val4.VT {m : List Fu} (h : val4 m) (t : Tm) : VT m t := fun _ _ _ _ => appF_len h
theorem evlA {m : List Fu} : ∀ t : Tm, VT m t → okT t = true → FT t → (evalT m t).2.2.length + 1 ≤ 6 * t.nodes := by
  refine Tm.ind fun t ih hm ho hF => ?_
  have hk := okT_kids ho
  obtain ⟨f1, _, f3⟩ := (FT_eq t).1 hF
  have hs := sumL_map (m := m) (l := t.kids) fun k hkm => ih k hkm (hm.kid hkm) (hk k hkm) (f3 k hkm)
  rw [evalT_eq, nodes_eq]
  unfold evalN
  split
  · show t.num.2.length + 1 ≤ _; omega
  · split
    · have := boolV_len true; omega
    · split
      · have := boolV_len false; omega
      · split
        · rename_i c4
          have := hm t (.refl t) c4 (t.kids.map (evalT m)); omega
        · rename_i n1 n2 n3 n4
          have hno := node_op ho (by omega)
          split
          · split
            · have := atV_len (l := t.kids.map (evalT m)) (i := 1); omega
            · have := atV_len (l := t.kids.map (evalT m)) (i := 2); omega
          · split
            · have hne : t.kids.map (evalT m) ≠ [] := by
                intro e
                have := kidsB_pos hno.2.1
                have e2 : t.kids = [] := List.map_eq_nil_iff.1 e
                rw [e2] at this; simp at this
              have := numV_len t.op (t.kids.map (evalT m)) hne
              show (numV t.op (t.kids.map (evalT m))).2.length + 1 ≤ _
              omega
            · have := boolV_len (holdsV t.op (t.kids.map (evalT m))); omega
theorem evl {m : List Fu} (hm : val4 m) (t : Tm) (ho : okT t = true) (hF : FT t) : (evalT m t).2.2.length + 1 ≤ 6 * t.nodes := evlA t (hm.VT t) ho hF
set_option maxRecDepth 100000 in
theorem v_evals (m : List Fu) (l : List Tm) (hl : l.length < 1000000) (h : ∀ t ∈ l, PCall Tryz.prog 50 [gT t, tLF m] (gV (evalT m t))) : PCall Tryz.prog 88 [tLF m, tLT l] (tLV (l.map (evalT m))) := by
  refine pcall_of_wpA mixed Tryz.call88 Tryz.func88 rfl Tryz.ntmps88 Tryz.results88 (by simp) (by decide) ?_
  simp only [go_sem]
  refine loop_inv (fun i : Nat => stL 22 [(0, .one (.t (eL cFu m))), (5, accA 1000 3 ((l.take i).map (evalT m))), (8, .one (.t (eL cT l))), (9, litI .i64 l.length), (10, litI .i64 i)] (accE 1000 cV ((l.take i).map (evalT m))))
    (fun i => i ≤ l.length) (fun i => l.length - i) 0 ?_ (Nat.zero_le _) ?_
  · rw [List.take_zero, List.map_nil]
    (refine gstep_list rfl ?_ ?_ ?_ ?_ <;> (try simp only [go_sem, tail_one]) <;> (try simp))
  · intro i hi
    simp only [go_sem]
    refine CondR_if (fun hlt => ?_) (fun hge => ?_)
    · have hlt' : i < l.length := by omega
      have hel : elemD cT l i = cT l[i] := elemD_lt hlt'
      have hnx := opA_next (f := evalT m) hlt'
      have hal : ((l.take i).map (evalT m)).length = i := by rw [List.length_map, List.length_take]; omega
      have h1 := h _ (List.getElem_mem hlt')
      generalize l[i] = t at *
      rw [show gT t = TV.agg (cT t) from rfl, cT_eq] at h1
      generalize evalT m t = v at *
      generalize (l.take i).map (evalT m) = acc at *
      simp only [go_sem, hel, cT_eq]
      (repeat (refine And.intro (by omega) ?_))
      refine call_pure h1 rfl ?_
      simp only [go_sem]
      refine opA_app_acc (sz := 3) (bytes := 40) (by simp only [go_sem, AppTy] <;> decide) cV_len acc [v] (b := 1000) (by simp only [go_sem] <;> rfl) (by simp only [go_sem] <;> rfl) (by simp only [go_sem] <;> rfl) rfl (by simp) (by simp only [List.length_cons, List.length_nil] at *; omega) (by decide) ?_
      simp only [go_sem]
      refine ⟨i + 1, hlt', (by show l.length - (i + 1) < l.length - i; omega), ?_⟩
      (refine gstep_list rfl ?_ ?_ ?_ ?_ <;> (try simp only [go_sem, tail_one, hnx, wrap_i64 (n := (i : Int) + 1) (by omega) (by omega)]) <;> (try simp))
    · obtain rfl : i = l.length := by omega
      rw [List.take_length]
      simp only [go_sem]
      refine fz_accA cV_len ?_
      cases h : l.map (evalT m) with
      | nil => exact .inl rfl
      | cons z zs => right; rfl
end Go.Proofs.YtgnfgaioeldagaaGreat
namespace Go.Proofs.YtgnfgaioeldagaaGreat
open Go Go.Abs
set_option maxHeartbeats 16000000
theorem sortR_two {op : Int} {l : List Tm} (h : sortR op l = 2) (c : ¬ op = 12) : op = 13 ∨ op = 14 ∨ op = 15 ∨ op = 16 ∨ op = 17 ∨ op = 18 := by
  unfold sortR at h
  split at h
  · assumption
  · omega
theorem sortR_one {op : Int} {l : List Tm} (h : ¬ sortR op l = 2) : ¬ (op = 13 ∨ op = 14 ∨ op = 15 ∨ op = 16 ∨ op = 17 ∨ op = 18) := fun c => h (by unfold sortR; rw [if_pos c])
set_option maxRecDepth 100000 in
theorem v_evalA (m : List Fu) (hm : limA m) : ∀ (n : Nat) (t : Tm), t.nodes ≤ n → n < 100000 → VT m t → okT t = true → FT t → PCall Tryz.prog 50 [gT t, tLF m] (gV (evalT m t)) := by
  intro n
  induction n with
  | zero => intro t h; have := nodes_pos t; omega
  | succ n ih =>
  intro t hn hn1 h4 ho hF
  have hko := okT_kids ho
  obtain ⟨f1, f2, f3⟩ := (FT_eq t).1 hF
  have hkl := kids_len t
  have hnt := nodes_eq t
  have he := v_evals m t.kids (by omega) fun k hk => ih k (by have := nodes_kid hk; omega) (by omega) (h4.kid hk) (hko k hk) (f3 k hk)
  have hev : ∀ k ∈ t.kids, (evalT m k).2.2.length + 1 ≤ 6 * k.nodes := fun k hk => evlA k (h4.kid hk) (hko k hk) (f3 k hk)
  have hsum := sumL_map hev
  have hlim : ∀ v ∈ t.kids.map (evalT m), limV v := fun v hv => by have := sumL_mem hv; unfold limV; omega
  rw [evalT_eq]
  have hvl : (t.kids.map (evalT m)).length = t.kids.length := List.length_map _
  refine pcall_of_wpA mixed Tryz.call50 Tryz.func50 rfl Tryz.ntmps50 Tryz.results50 (by simp) (by decide) ?_
  unfold evalN
  generalize hvs : t.kids.map (evalT m) = vs at *
  simp only [go_sem, cT_eq]
  refine call_pure he rfl ?_
  by_cases c1 : t.op = 1
  · have g1 := decide_eq_true c1
    have h := v_Int t.num
    rw [if_pos c1]
    simp only [go_sem, g1]
    refine call_pure h rfl ?_
    simp only [go_sem]
    exact fz_Cs (.cons .t (.cons .t (.cons .t .nil)))
  · have g1 := decide_eq_false c1
    rw [if_neg c1]
    by_cases c2 : t.op = 2
    · have g2 := decide_eq_true c2
      have h := v_Bool true
      rw [if_pos c2]
      generalize boolV true = r at *
      simp only [go_sem, g1, g2]
      refine call_pure h rfl ?_
      simp only [go_sem]
      exact fz_Cs (.cons .t (.cons .t (.cons .t .nil)))
    · have g2 := decide_eq_false c2
      rw [if_neg c2]
      by_cases c3 : t.op = 3
      · have g3 := decide_eq_true c3
        have h := v_Bool false
        rw [if_pos c3]
        generalize boolV false = r at *
        simp only [go_sem, g1, g2, g3]
        refine call_pure h rfl ?_
        simp only [go_sem]
        exact fz_Cs (.cons .t (.cons .t (.cons .t .nil)))
      · have g3 := decide_eq_false c3
        rw [if_neg c3]
        by_cases c4 : t.op = 4
        · have g4 := decide_eq_true c4
          have h1 := t_Sig t (by omega)
          have h2 := v_applyA m (sgT t) vs hm (by show (t.kids.map Tm.sort).length < _; rw [List.length_map]; omega)
          rw [show gT t = TV.agg (cT t) from rfl, cT_eq] at h1
          rw [if_pos c4]
          generalize sgT t = sg at *
          generalize appF sg vs m = r at *
          simp only [go_sem, g1, g2, g3, g4]
          refine call_pure h1 rfl ?_
          simp only [go_sem]
          refine call_pure h2 rfl ?_
          simp only [go_sem]
          exact fz_Cs (.cons .t (.cons .t (.cons .t .nil)))
        · have g4 := decide_eq_false c4
          obtain ⟨ho1, hkb, hso, _⟩ := node_op ho (by omega)
          rw [if_neg c4]
          by_cases c12 : t.op = 12
          · have g12 := decide_eq_true c12
            rw [if_pos c12]
            obtain ⟨a, b, c, rfl⟩ := len3 (l := vs) (by rw [hvl]; rw [c12] at hkb; simpa [kidsB] using hkb)
            have e0 : elemD cV [a, b, c] 0 = cV a := rfl
            have e1 : elemD cV [a, b, c] 1 = cV b := rfl
            have e2 : elemD cV [a, b, c] 2 = cV c := rfl
            have h := v_yes a (hlim a (by simp))
            cases cy : yesV a with
            | true =>
              rw [cy] at h
              rw [show (if yesV (atV [a, b, c] 0) then atV [a, b, c] 1 else atV [a, b, c] 2) = b by show (if yesV a then b else c) = b; rw [cy]; rfl]
              simp only [go_sem, g1, g2, g3, g4, g12, e0, e1, e2]
              refine call_pure h rfl ?_
              simp only [go_sem, e0, e1, e2]
              exact fz_Cs (.cons .t (.cons .t (.cons .t .nil)))
            | false =>
              rw [cy] at h
              rw [show (if yesV (atV [a, b, c] 0) then atV [a, b, c] 1 else atV [a, b, c] 2) = c by show (if yesV a then b else c) = c; rw [cy]; rfl]
              simp only [go_sem, g1, g2, g3, g4, g12, e0, e1, e2]
              refine call_pure h rfl ?_
              simp only [go_sem, e0, e1, e2]
              exact fz_Cs (.cons .t (.cons .t (.cons .t .nil)))
          · have g12 := decide_eq_false c12
            rw [if_neg c12]
            by_cases cs : t.sort = 2
            · have gs := decide_eq_true cs
              rw [if_pos cs]
              have hne : vs ≠ [] := by
                intro e
                have := kidsB_pos hkb
                rw [e] at hvl; simp at hvl; omega
              have h1 := v_number t.op vs hne (by omega)
              have h2 := v_Int (numV t.op vs)
              generalize numV t.op vs = r at *
              simp only [go_sem, g1, g2, g3, g4, g12, gs]
              refine call_pure h1 rfl ?_
              simp only [go_sem]
              refine call_pure h2 rfl ?_
              simp only [go_sem]
              exact fz_Cs (.cons .t (.cons .t (.cons .t .nil)))
            · have gs := decide_eq_false cs
              rw [if_neg cs]
              have hop := sortR_one (by rw [← hso]; exact cs)
              have h1 := v_holds t.op vs (by omega) (by rw [hvl]; exact hkb) (by omega) hlim
              have h2 := v_Bool (holdsV t.op vs)
              generalize holdsV t.op vs = q at *
              generalize boolV q = r at *
              simp only [go_sem, g1, g2, g3, g4, g12, gs]
              refine call_pure h1 rfl ?_
              simp only [go_sem]
              refine call_pure h2 rfl ?_
              simp only [go_sem]
              exact fz_Cs (.cons .t (.cons .t (.cons .t .nil)))
theorem v_eval (m : List Fu) (hm : limM m) (h4 : val4 m) (n : Nat) (t : Tm) (hn : t.nodes ≤ n) (hn2 : n < 100000) (ho : okT t = true) (hF : FT t) : PCall Tryz.prog 50 [gT t, tLF m] (gV (evalT m t)) := v_evalA m hm.A n t hn hn2 (h4.VT t) ho hF
theorem limA_held {m : List Fu} (h : limA m) : limA (heldM m) := by
  unfold heldM
  split
  · exact h
  · exact ⟨by simp, fun f hf => by cases hf⟩
theorem VT_held {m : List Fu} {t : Tm} (h : VT m t) : VT (heldM m) t := by
  unfold heldM
  split
  · exact h
  · exact fun u hu c l => by simp [appF, zzI]
theorem limM_held {m : List Fu} (h : limM m) : limM (heldM m) := by
  unfold heldM
  split
  · exact h
  · exact ⟨by simp, fun f hf => by cases hf⟩
theorem val4_held {m : List Fu} (h : val4 m) : val4 (heldM m) := by
  unfold heldM
  split
  · exact h
  · exact fun f hf => by cases hf
set_option maxRecDepth 100000 in
theorem v_EvalA (hS : SmallSpec) (hI : IdxSpec) (t : Tm) (m : List Fu) (hF : FT t) (hK : KT t) (hn : t.nodes < 100000) (hm : limA m) (h4 : VT m t) : PCall Tryz.prog 15 [gT t, tLF m] (gV (evalM t m)) := by
  refine pcall_of_wpA mixed Tryz.call15 Tryz.func15 rfl Tryz.ntmps15 Tryz.results15 (by simp) (by decide) ?_
  have h1 := t_Is hI t hF hK hn
  have h2 := v_Bool false
  have h3 := v_heldA hS hI m hm
  rw [show gT t = TV.agg (cT t) from rfl, cT_eq] at h1
  unfold evalM
  cases c : isT t with
  | false =>
    rw [c] at h1
    rw [if_neg (by simp)]
    generalize boolV false = r at *
    simp only [go_sem, cT_eq]
    refine call_pure h1 rfl ?_
    simp only [go_sem]
    refine call_pure h2 rfl ?_
    simp only [go_sem]
    exact fz_Cs (.cons .t (.cons .t (.cons .t .nil)))
  | true =>
    rw [c] at h1
    have ho : okT t = true := by unfold isT at c; rw [Bool.and_eq_true] at c; exact c.2
    have h5 := v_evalA (heldM m) (limA_held hm) t.nodes t (Nat.le_refl _) (by omega) (VT_held h4) ho hF
    rw [show gT t = TV.agg (cT t) from rfl, cT_eq] at h5
    rw [if_pos rfl]
    generalize evalT (heldM m) t = r at *
    generalize heldM m = m2 at *
    simp only [go_sem, cT_eq]
    refine call_pure h1 rfl ?_
    simp only [go_sem]
    refine regA_by 0 rfl ?_
    simp only [go_sem, cT_eq]
    refine call_pure h3 rfl ?_
    simp only [go_sem]
    refine call_pure h5 rfl ?_
    simp only [go_sem]
    exact fz_Cs (.cons .t (.cons .t (.cons .t .nil)))
theorem v_Eval (hS : SmallSpec) (hI : IdxSpec) (t : Tm) (m : List Fu) (hF : FT t) (hK : KT t) (hn : t.nodes < 100000) (hm : limM m) (h4 : val4 m) : PCall Tryz.prog 15 [gT t, tLF m] (gV (evalM t m)) := v_EvalA hS hI t m hF hK hn hm.A (h4.VT t)
theorem evalT_lim {m : List Fu} {t : Tm} (h4 : val4 m) (ho : okT t = true) (hF : FT t) (hn : t.nodes < 100000) : limV (evalT m t) := by
  have := evl h4 t ho hF; unfold limV; omega
set_option maxRecDepth 100000 in
theorem v_True (hS : SmallSpec) (hI : IdxSpec) (l : List Tm) (m : List Fu) (hl : l.length < 1000000) (hF : ∀ t ∈ l, FT t) (hK : ∀ t ∈ l, KT t) (hn : ∀ t ∈ l, t.nodes < 100000) (hm : limM m) (h4 : val4 m) : PCall Tryz.prog 19 [tLT l, tLF m] (tB (trueM l m)) := by
  refine pcall_of_wpA mixed Tryz.call19 Tryz.func19 rfl Tryz.ntmps19 Tryz.results19 (by simp) (by decide) ?_
  have h3 := v_held hS hI m hm
  obtain ⟨p, hp⟩ : ∃ p : Tm → Bool, p = fun t => isT t && decide (t.sort = 1) && yesV (evalT (heldM m) t) := ⟨_, rfl⟩
  have eT : trueM l m = l.all p := by rw [hp]; rfl
  rw [eT]
  have hm2 := limM_held hm
  have h42 := val4_held h4
  generalize heldM m = m2 at *
  simp only [go_sem]
  refine call_pure h3 rfl ?_
  simp only [go_sem]
  refine loop_inv (fun i : Nat => stL 31 [(1, .one (.t (eL cFu m2))), (9, .one (.t (eL cT l))), (10, litI .i64 l.length), (11, litI .i64 i)] []) (fun i => i ≤ l.length ∧ (l.take i).all p = true) (fun i => l.length - i) 0 ?_ ⟨Nat.zero_le _, by simp⟩ ?_
  · (refine gstep_list rfl ?_ ?_ ?_ ?_ <;> (try simp only [go_sem, tail_one]) <;> (try simp))
  · rintro i ⟨hi, hinv⟩
    simp only [go_sem]
    refine CondR_if (fun hlt => ?_) (fun hge => ?_)
    · have hlt' : i < l.length := by omega
      have hel : elemD cT l i = cT l[i] := elemD_lt hlt'
      have hs := all_take_succ (p := p) hlt'
      have hno := all_no (p := p) hlt'
      have hFt := hF _ (List.getElem_mem hlt')
      have hKt := hK _ (List.getElem_mem hlt')
      have hnt := hn _ (List.getElem_mem hlt')
      generalize l[i] = t at *
      have hpt : p t = (isT t && decide (t.sort = 1) && yesV (evalT m2 t)) := by rw [hp]
      have h1 := t_Is hI t hFt hKt hnt
      rw [show gT t = TV.agg (cT t) from rfl, cT_eq] at h1
      simp only [go_sem, hel, cT_eq]
      (repeat (refine And.intro (by omega) ?_))
      refine call_pure h1 rfl ?_
      cases c1 : isT t with
      | false =>
        rw [hno (by rw [hpt, c1]; rfl)]
        simp only [go_sem]
      | true =>
        have ho : okT t = true := by unfold isT at c1; rw [Bool.and_eq_true] at c1; exact c1.2
        cases c2 : decide (t.sort = 1) with
        | false =>
          rw [hno (by rw [hpt, c1, c2]; rfl)]
          simp only [go_sem, dne, c2]
        | true =>
          have h5 := v_eval m2 hm2 h42 t.nodes t (Nat.le_refl _) (by omega) ho hFt
          have h6 := v_yes (evalT m2 t) (evalT_lim h42 ho hFt hnt)
          rw [show gT t = TV.agg (cT t) from rfl, cT_eq] at h5
          simp only [go_sem, dne, c2, hel, cT_eq]
          refine call_pure h5 rfl ?_
          cases c3 : yesV (evalT m2 t) with
          | false =>
            rw [c3] at h6
            rw [hno (by rw [hpt, c1, c2, c3]; rfl)]
            generalize evalT m2 t = r at *
            simp only [go_sem]
            refine call_pure h6 rfl ?_
            simp only [go_sem]
          | true =>
            rw [c3] at h6
            have hall : (l.take (i + 1)).all p = true := by rw [hs, hinv, hpt, c1, c2, c3]; rfl
            generalize evalT m2 t = r at *
            simp only [go_sem]
            refine call_pure h6 rfl ?_
            simp only [go_sem]
            refine ⟨i + 1, ⟨hlt', hall⟩, (by show l.length - (i + 1) < l.length - i; omega), ?_⟩
            (refine gstep_list rfl ?_ ?_ ?_ ?_ <;> (try simp only [go_sem, tail_one, wrap_i64 (n := (i : Int) + 1) (by omega) (by omega)]) <;> (try simp))
    · obtain rfl : i = l.length := by omega
      rw [List.take_length] at hinv
      rw [hinv]
      simp only [go_sem]
end Go.Proofs.YtgnfgaioeldagaaGreat
