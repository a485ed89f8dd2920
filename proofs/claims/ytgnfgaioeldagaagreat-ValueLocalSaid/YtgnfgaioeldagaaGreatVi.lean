/- At every input the call answers true and leaves its arguments as they were; no conditions. -/
import Derived.Test.YtgnfgaioeldagaaGreatVh
import Derived.Test.YtgnfgaioeldagaaGreatVg
set_option linter.unusedSimpArgs false
set_option linter.unusedVariables false
namespace Go.Proofs.YtgnfgaioeldagaaGreat
open Go Go.Abs
set_option maxHeartbeats 16000000
/-! ### The signatures in a term -/
def insS (s : Sg) (p : List Sg × Bool) : List Sg × Bool :=
  if h : p.1.findIdx (fun x => !(sLt x.1 s.1)) < p.1.length then
    (if p.1[p.1.findIdx (fun x => !(sLt x.1 s.1))].1 = s.1 then (p.1, p.2 && decide (p.1[p.1.findIdx (fun x => !(sLt x.1 s.1))] = s))
    else (p.1.take (p.1.findIdx (fun x => !(sLt x.1 s.1))) ++ [s] ++ p.1.drop (p.1.findIdx (fun x => !(sLt x.1 s.1))), p.2))
  else (p.1.take (p.1.findIdx (fun x => !(sLt x.1 s.1))) ++ [s] ++ p.1.drop (p.1.findIdx (fun x => !(sLt x.1 s.1))), p.2)
def nodeS (t : Tm) (p : List Sg × Bool) : List Sg × Bool := if t.op = 4 then insS (sgT t) p else p
mutual
def sigsT : Tm → List Sg × Bool → List Sg × Bool
  | .mk o n s r ks, p => sigsTs ks (nodeS (.mk o n s r ks) p)
def sigsTs : List Tm → List Sg × Bool → List Sg × Bool
  | [], p => p
  | t :: l, p => sigsTs l (sigsT t p)
end
theorem sigsTs_fold : ∀ (l : List Tm) (p : List Sg × Bool), sigsTs l p = l.foldl (fun p k => sigsT k p) p
  | [], _ => by rw [sigsTs]; rfl
  | t :: l, p => by rw [sigsTs, sigsTs_fold l]; rfl
theorem sigsT_eq (t : Tm) (p : List Sg × Bool) : sigsT t p = t.kids.foldl (fun p k => sigsT k p) (nodeS t p) := by
  cases t; rw [sigsT, sigsTs_fold]; rfl
def LS (p : List Sg × Bool) : Prop := ∀ x ∈ p.1, x.2.1.length < 1000000
/-- One that has all names of another's. -/
def hasN (n : ByteArray) (p : List Sg × Bool) : Prop := ∃ x ∈ p.1, x.1 = n
theorem mem_mid {α : Type} {l : List α} {i : Nat} {s x : α} : x ∈ l.take i ++ [s] ++ l.drop i ↔ x ∈ l ∨ x = s := by
  rw [List.mem_append, List.mem_append, List.mem_singleton]
  have := @List.mem_append _ x (l.take i) (l.drop i)
  rw [List.take_append_drop] at this
  rw [this]
  constructor
  · rintro ((h | h) | h)
    · exact .inl (.inl h)
    · exact .inr h
    · exact .inl (.inr h)
  · rintro ((h | h) | h)
    · exact .inl (.inl h)
    · exact .inr h
    · exact .inl (.inr h)
theorem insS_cases (s : Sg) (p : List Sg × Bool) : ((insS s p).1 = p.1 ∧ hasN s.1 p) ∨ (insS s p).1 = p.1.take (p.1.findIdx (fun x => !(sLt x.1 s.1))) ++ [s] ++ p.1.drop (p.1.findIdx (fun x => !(sLt x.1 s.1))) := by
  unfold insS
  split
  · rename_i h
    split
    · rename_i e
      exact .inl ⟨rfl, _, List.getElem_mem h, e⟩
    · exact .inr rfl
  · exact .inr rfl
theorem insS_len (s : Sg) (p : List Sg × Bool) : (insS s p).1.length ≤ p.1.length + 1 := by
  rcases insS_cases s p with h | h
  · rw [h.1]; omega
  · rw [h, List.length_append, List.length_append, List.length_take, List.length_drop]
    simp only [List.length_singleton]; omega
theorem insS_LS {s : Sg} {p : List Sg × Bool} (h : LS p) (hs : s.2.1.length < 1000000) : LS (insS s p) := fun x hx => by
  rcases insS_cases s p with e | e
  · rw [e.1] at hx; exact h x hx
  · rw [e, mem_mid] at hx
    rcases hx with hx | rfl
    · exact h x hx
    · exact hs
theorem insS_has {s : Sg} {p : List Sg × Bool} {n : ByteArray} (h : hasN n p ∨ n = s.1) : hasN n (insS s p) := by
  unfold hasN
  rcases insS_cases s p with e | e
  · rw [e.1]
    rcases h with h | rfl
    · exact h
    · exact e.2
  · rw [e]
    rcases h with ⟨x, hx, hn⟩ | rfl
    · exact ⟨x, mem_mid.2 (.inl hx), hn⟩
    · exact ⟨s, mem_mid.2 (.inr rfl), rfl⟩
theorem sgT_len {t : Tm} : (sgT t).2.1.length < t.nodes := by show (t.kids.map Tm.sort).length < _; rw [List.length_map]; exact kids_len t
theorem nodeS_len (t : Tm) (p : List Sg × Bool) : (nodeS t p).1.length ≤ p.1.length + 1 := by
  unfold nodeS; split
  · exact insS_len _ _
  · omega
theorem nodeS_LS {t : Tm} {p : List Sg × Bool} (h : LS p) (hs : t.nodes ≤ 1000000) : LS (nodeS t p) := by
  unfold nodeS; split
  · exact insS_LS h (by have := @sgT_len t; omega)
  · exact h
theorem nodesL_take_le (l : List Tm) (i : Nat) : nodesL (l.take i) ≤ nodesL l := by
  induction l generalizing i with
  | nil => simp
  | cons x l ih =>
    cases i with
    | zero => simp [nodesL]
    | succ i => rw [List.take_succ_cons, nodesL_cons, nodesL_cons]; have := ih i; omega
theorem foldS_of {l : List Tm} (p : List Sg × Bool) (h : LS p) (hs : ∀ k ∈ l, k.nodes ≤ 1000000) (hk : ∀ k ∈ l, ∀ q, LS q → k.nodes ≤ 1000000 → (sigsT k q).1.length ≤ q.1.length + k.nodes ∧ LS (sigsT k q)) : (l.foldl (fun p k => sigsT k p) p).1.length ≤ p.1.length + nodesL l ∧ LS (l.foldl (fun p k => sigsT k p) p) := by
  induction l generalizing p with
  | nil => exact ⟨by simp [nodesL], h⟩
  | cons x l ih =>
    rw [List.foldl_cons, nodesL_cons]
    have h1 := hk x (List.mem_cons_self ..) p h (hs x (List.mem_cons_self ..))
    have h2 := ih (sigsT x p) h1.2 (fun k h => hs k (List.mem_cons_of_mem _ h)) (fun k h => hk k (List.mem_cons_of_mem _ h))
    exact ⟨by omega, h2.2⟩
theorem sigsT_len : ∀ (t : Tm) (p : List Sg × Bool), LS p → t.nodes ≤ 1000000 → (sigsT t p).1.length ≤ p.1.length + t.nodes ∧ LS (sigsT t p) := by
  refine Tm.ind fun t ih p h hn => ?_
  rw [sigsT_eq, nodes_eq]
  have h1 := foldS_of (l := t.kids) (nodeS t p) (nodeS_LS h hn) (fun k hk => by have := nodes_kid hk; omega) (fun k hk => ih k hk)
  have := nodeS_len t p
  exact ⟨by omega, h1.2⟩
theorem foldS_len (l : List Tm) (p : List Sg × Bool) (h : LS p) (hs : ∀ k ∈ l, k.nodes ≤ 1000000) : (l.foldl (fun p k => sigsT k p) p).1.length ≤ p.1.length + nodesL l ∧ LS (l.foldl (fun p k => sigsT k p) p) :=
  foldS_of p h hs fun k _ => sigsT_len k
theorem foldS_has {n : ByteArray} (l : List Tm) (p : List Sg × Bool) (hk : ∀ k ∈ l, ∀ q, hasN n q → hasN n (sigsT k q)) (h : hasN n p) : hasN n (l.foldl (fun p k => sigsT k p) p) := by
  induction l generalizing p with
  | nil => exact h
  | cons x l ih => exact ih _ (fun k h => hk k (List.mem_cons_of_mem _ h)) (hk x (List.mem_cons_self ..) p h)
theorem nodeS_has {t : Tm} {n : ByteArray} {p : List Sg × Bool} (h : hasN n p) : hasN n (nodeS t p) := by
  unfold nodeS; split
  · exact insS_has (.inl h)
  · exact h
theorem sigsT_keeps {n : ByteArray} : ∀ (t : Tm) (p : List Sg × Bool), hasN n p → hasN n (sigsT t p) := by
  refine Tm.ind fun t ih p h => ?_
  rw [sigsT_eq]
  exact foldS_has _ _ (fun k hk => ih k hk) (nodeS_has h)
/-- What is applied in a term is among its signatures. -/
theorem sigsT_has {u : Tm} (hu : u.op = 4) : ∀ {t : Tm}, Sub u t → ∀ p, hasN u.name (sigsT t p) := by
  intro t h
  induction h with
  | refl =>
    intro p
    rw [sigsT_eq]
    refine foldS_has _ _ (fun k _ => sigsT_keeps k) ?_
    unfold nodeS
    rw [if_pos hu]
    exact insS_has (.inr rfl)
  | @kid t k hk _ ih =>
    intro p
    rw [sigsT_eq]
    generalize nodeS t p = q
    generalize hl : t.kids = l at *
    clear hl
    induction l generalizing q with
    | nil => cases hk
    | cons x l ihl =>
      rw [List.foldl_cons]
      rcases List.mem_cons.1 hk with rfl | hk
      · exact foldS_has _ _ (fun k _ => sigsT_keeps k) (ih q)
      · exact ihl _ hk

set_option maxRecDepth 100000 in
theorem r_sigs : ∀ (n : Nat) (t : Tm) (out : List Sg) (fine : Bool), t.nodes ≤ n → n < 100000 → out.length + t.nodes ≤ 900000 → LS (out, fine) → PCall Tryz.prog 77 [gT t, .one (eL cS out), tB fine] (.tup [.one (eL cS (sigsT t (out, fine)).1), tB (sigsT t (out, fine)).2]) := by
  intro n
  induction n with
  | zero => intro t _ _ h; have := nodes_pos t; omega
  | succ n ih =>
  intro t out fine hn hn1 hol hLS
  have ih := fun (t : Tm) (out : List Sg) (fine : Bool) (h : t.nodes ≤ n) (h2 : n < 100000) (h3 : out.length + t.nodes ≤ 900000) (h4 : LS (out, fine)) => ih t out fine h h2 h3 h4
  have hkl := kids_len t
  have hnt := nodes_eq t
  obtain ⟨p0, hp0⟩ : ∃ p0, p0 = nodeS t (out, fine) := ⟨_, rfl⟩
  have hp1 : p0.1.length ≤ out.length + 1 := by rw [hp0]; exact nodeS_len _ _
  have hp2 : LS p0 := by rw [hp0]; exact nodeS_LS hLS (by omega)
  obtain ⟨R, hR⟩ : ∃ R, R = t.kids.foldl (fun p k => sigsT k p) p0 := ⟨_, rfl⟩
  rw [show sigsT t (out, fine) = R by rw [sigsT_eq, ← hp0, hR]]
  refine pcall_of_wpS [false, false, true] mixed Tryz.call77 Tryz.func77 rfl Tryz.ntmps77 Tryz.results77 (by simp) (by decide) ?_
  by_cases c4 : t.op = 4
  · have g4 := decide_eq_true c4
    have hSg := r_SigOf t (by omega)
    rw [show gT t = TV.agg (cT t) from rfl, cT_eq] at hSg
    have hp0 : p0 = insS (sgT t) (out, fine) := by rw [hp0]; exact if_pos c4
    have hsl := @sgT_len t
    generalize sgT t = s at *
    unfold insS at hp0
    have hfl := List.findIdx_le_length (p := fun x : Sg => !(sLt x.1 s.1)) (xs := out)
    have hsz : ∀ y ∈ out.map cS, y.length = 3 := fun y hy => by obtain ⟨f, _, rfl⟩ := List.mem_map.1 hy; rfl
    have hel7 : ∀ j, (out.map cS).take j = (out.take j).map cS := fun j => by rw [List.map_take]
    have hel8 : ∀ j, ((out.map cS).take out.length).drop j = (out.drop j).map cS := fun j => by
      rw [List.take_of_length_le (by simp), List.map_drop]
    have hel9 : ∀ j, ((out.take out.length).drop j).map cS = (out.drop j).map cS := fun j => by rw [List.take_length]
    simp only [go_sem, cT_eq, g4]
    refine call_pure hSg rfl ?_
    simp only [go_sem]
    refine loop_inv (fun i : Nat => stL 90 [(3, .one (.ptr 3 0)), (8, .one (.t (eL cS out))), (9, litB fine), (10, .one (.ptr 10 0)), (11, litI .i64 i)] [(3, [.t (.lit (.int .i64 t.op)), .t (.lit (.bool t.num.1)), .t (eN t.num.2), .t (.lit (.string t.name)), .t (.lit (.int .i64 t.sort)), .t (eL cT t.kids)]), (10, [.t (.lit (.string s.1)), .t (eL cInt s.2.1), .t (.lit (.int .i64 s.2.2))])])
      (fun i => i ≤ out.findIdx (fun x => !(sLt x.1 s.1))) (fun i => out.length - i) 0 ?_ (Nat.zero_le _) ?_
    · (refine gstep_list rfl ?_ ?_ ?_ ?_ <;> (try simp only [go_sem, tail_one]) <;> (try simp))
    · intro i hi
      simp only [go_sem]
      refine regA_by 0 rfl ?_
      by_cases hlt : i < out.length
      · have f1 : decide ((i : Int) < (out.length : Int)) = true := decide_eq_true (by omega)
        have f3 : ((i : Int) < (out.length : Int)) = True := eq_true (by omega)
        have hel : elemD cS out i = cS out[i] := elemD_lt hlt
        have hno := @idx_no _ (fun x : Sg => !(sLt x.1 s.1)) out i hlt hi
        have hye : sLt out[i].1 s.1 = false → out.findIdx (fun x => !(sLt x.1 s.1)) = i := fun e => by
          have h1 := @idx_yes _ (fun x : Sg => !(sLt x.1 s.1)) out i hlt hi (by simp [e])
          unfold idxB at h1
          rw [if_pos (List.any_eq_true.2 ⟨out[i], List.getElem_mem hlt, by simp [e]⟩)] at h1
          omega
        have hbl : Op.bytesLess out[i].1.toList s.1.toList = sLt out[i].1 s.1 := rfl
        have hbe := bytes_eq out[i].1 s.1
        cases c : sLt out[i].1 s.1 with
        | true =>
          rw [c] at hbl
          have hno2 := hno (by simp [c])
          clear hno hye
          generalize out[i] = x at *
          simp only [go_sem, f1, f3, hel, hbl]
          (repeat (refine And.intro (by omega) ?_))
          refine ⟨i + 1, hno2, (by show out.length - (i + 1) < out.length - i; omega), ?_⟩
          (refine gstep_list rfl ?_ ?_ ?_ ?_ <;> (try simp only [go_sem, tail_one, wrap_i64 (n := (i : Int) + 1) (by omega) (by omega)]) <;> (try simp))
        | false =>
          rw [c] at hbl
          have hix := hye c
          have hp0 : p0 = if out[i].1 = s.1 then (out, fine && decide (out[i] = s)) else (out.take i ++ [s] ++ out.drop i, fine) := by
            rw [hp0, dif_pos (by rw [hix]; exact hlt)]
            simp only [hix]
          have hS := r_SameSig out[i] s (by have := hLS _ (List.getElem_mem hlt); omega)
          generalize out[i] = x at *
          simp only [go_sem, f1, f3, hel, hbl]
          (repeat (refine And.intro (by omega) ?_))
          refine regA_by 0 rfl ?_
          by_cases e : x.1 = s.1
          · rw [decide_eq_true e] at hbe
            rw [if_pos e] at hp0
            cases fine with
            | false =>
              simp only [go_sem, f1, f3, hel, hbe]
              (repeat (refine And.intro (by omega) ?_))
              refine regA_by 0 rfl ?_
              simp only [go_sem, f1, f3, hel, hbe]
              (repeat (refine And.intro (by omega) ?_))
              refine pau (stL 90 [(3, .one (.ptr 3 0)), (8, .one (.t (eL cS p0.1))), (9, litB p0.2)] [(3, [.t (.lit (.int .i64 t.op)), .t (.lit (.bool t.num.1)), .t (eN t.num.2), .t (.lit (.string t.name)), .t (.lit (.int .i64 t.sort)), .t (eL cT t.kids)])]) ?_ ?_
              · (refine gstep_list rfl ?_ ?_ ?_ ?_ <;> (try simp only [go_sem, tail_one, hp0, Bool.false_and]) <;> (try simp))
              · obtain ⟨P, hP⟩ : ∃ P : Nat → List Sg × Bool, P = fun i => (t.kids.take i).foldl (fun p k => sigsT k p) p0 := ⟨_, rfl⟩
                have hP0 : P 0 = p0 := by rw [hP]; rfl
                have hPl : ∀ i, i ≤ t.kids.length → (P i).1.length ≤ p0.1.length + nodesL (t.kids.take i) ∧ LS (P i) := fun i hi => by rw [hP]; exact foldS_len _ _ hp2 (fun k hk => by have := nodes_kid (List.mem_of_mem_take hk); omega)
                have hPn : ∀ i (h : i < t.kids.length), P (i + 1) = sigsT t.kids[i] (P i) := fun i h => by rw [hP]; exact fold_take_succ (f := fun p k => sigsT k p) (b := p0) h
                have hPe : R = P t.kids.length := by rw [hR, hP]; show _ = (t.kids.take t.kids.length).foldl _ p0; rw [List.take_length]
                simp only [go_sem]
                refine loop_inv (fun i : Nat => stL 90 [(3, .one (.ptr 3 0)), (8, .one (.t (eL cS (P i).1))), (9, litB (P i).2), (12, litI .i64 i)] [(3, [.t (.lit (.int .i64 t.op)), .t (.lit (.bool t.num.1)), .t (eN t.num.2), .t (.lit (.string t.name)), .t (.lit (.int .i64 t.sort)), .t (eL cT t.kids)])]) (fun i => i ≤ t.kids.length) (fun i => t.kids.length - i) 0 ?_ (Nat.zero_le _) ?_
                · (refine gstep_list rfl ?_ ?_ ?_ ?_ <;> (try simp only [go_sem, tail_one, hP0]) <;> (try simp))
                · intro i hi
                  simp only [go_sem]
                  refine CondR_if (fun hlt => ?_) (fun hge => ?_)
                  · have hlt' : i < t.kids.length := by omega
                    have hel : elemD cT t.kids i = cT t.kids[i] := elemD_lt hlt'
                    have hn3 := hPn i hlt'
                    have hl3 := hPl i hi
                    have hns := nodesL_take_succ hlt'
                    have hnle := nodesL_take_le t.kids (i + 1)
                    have h1 := ih t.kids[i] (P i).1 (P i).2 (by have := nodes_kid (List.getElem_mem hlt'); omega) (by omega) (by omega) hl3.2
                    rw [show ((P i).1, (P i).2) = P i from rfl, ← hn3] at h1
                    have ilt : ((i : Int) < (t.kids.length : Int)) = True := eq_true (by omega)
                    generalize t.kids[i] = k at *
                    rw [show gT k = TV.agg (cT k) from rfl, cT_eq] at h1
                    generalize hPi : P i = a at *
                    generalize hPj : P (i + 1) = b at *
                    simp only [go_sem, hel, cT_eq, ilt]
                    (repeat (refine And.intro (by omega) ?_))
                    refine call_pure h1 rfl ?_
                    simp only [go_sem]
                    refine ⟨i + 1, hlt', (by show t.kids.length - (i + 1) < t.kids.length - i; omega), ?_⟩
                    (refine gstep_list rfl ?_ ?_ ?_ ?_ <;> (try simp only [go_sem, tail_one, hPj, wrap_i64 (n := (i : Int) + 1) (by omega) (by omega)]) <;> (try simp))
                  · obtain rfl : i = t.kids.length := by omega
                    rw [hPe]
                    simp only [go_sem]
                    exact fz_tup2 (.one .t) (.one .t)
            | true =>
              simp only [go_sem, f1, f3, hel, hbe]
              (repeat (refine And.intro (by omega) ?_))
              refine regA_by 0 rfl ?_
              simp only [go_sem, f1, f3, hel, hbe]
              (repeat (refine And.intro (by omega) ?_))
              refine call_pure hS rfl ?_
              simp only [go_sem]
              refine pau (stL 90 [(3, .one (.ptr 3 0)), (8, .one (.t (eL cS p0.1))), (9, litB p0.2)] [(3, [.t (.lit (.int .i64 t.op)), .t (.lit (.bool t.num.1)), .t (eN t.num.2), .t (.lit (.string t.name)), .t (.lit (.int .i64 t.sort)), .t (eL cT t.kids)])]) ?_ ?_
              · (refine gstep_list rfl ?_ ?_ ?_ ?_ <;> (try simp only [go_sem, tail_one, hp0, Bool.true_and]) <;> (try simp))
              · obtain ⟨P, hP⟩ : ∃ P : Nat → List Sg × Bool, P = fun i => (t.kids.take i).foldl (fun p k => sigsT k p) p0 := ⟨_, rfl⟩
                have hP0 : P 0 = p0 := by rw [hP]; rfl
                have hPl : ∀ i, i ≤ t.kids.length → (P i).1.length ≤ p0.1.length + nodesL (t.kids.take i) ∧ LS (P i) := fun i hi => by rw [hP]; exact foldS_len _ _ hp2 (fun k hk => by have := nodes_kid (List.mem_of_mem_take hk); omega)
                have hPn : ∀ i (h : i < t.kids.length), P (i + 1) = sigsT t.kids[i] (P i) := fun i h => by rw [hP]; exact fold_take_succ (f := fun p k => sigsT k p) (b := p0) h
                have hPe : R = P t.kids.length := by rw [hR, hP]; show _ = (t.kids.take t.kids.length).foldl _ p0; rw [List.take_length]
                simp only [go_sem]
                refine loop_inv (fun i : Nat => stL 90 [(3, .one (.ptr 3 0)), (8, .one (.t (eL cS (P i).1))), (9, litB (P i).2), (12, litI .i64 i)] [(3, [.t (.lit (.int .i64 t.op)), .t (.lit (.bool t.num.1)), .t (eN t.num.2), .t (.lit (.string t.name)), .t (.lit (.int .i64 t.sort)), .t (eL cT t.kids)])]) (fun i => i ≤ t.kids.length) (fun i => t.kids.length - i) 0 ?_ (Nat.zero_le _) ?_
                · (refine gstep_list rfl ?_ ?_ ?_ ?_ <;> (try simp only [go_sem, tail_one, hP0]) <;> (try simp))
                · intro i hi
                  simp only [go_sem]
                  refine CondR_if (fun hlt => ?_) (fun hge => ?_)
                  · have hlt' : i < t.kids.length := by omega
                    have hel : elemD cT t.kids i = cT t.kids[i] := elemD_lt hlt'
                    have hn3 := hPn i hlt'
                    have hl3 := hPl i hi
                    have hns := nodesL_take_succ hlt'
                    have hnle := nodesL_take_le t.kids (i + 1)
                    have h1 := ih t.kids[i] (P i).1 (P i).2 (by have := nodes_kid (List.getElem_mem hlt'); omega) (by omega) (by omega) hl3.2
                    rw [show ((P i).1, (P i).2) = P i from rfl, ← hn3] at h1
                    have ilt : ((i : Int) < (t.kids.length : Int)) = True := eq_true (by omega)
                    generalize t.kids[i] = k at *
                    rw [show gT k = TV.agg (cT k) from rfl, cT_eq] at h1
                    generalize hPi : P i = a at *
                    generalize hPj : P (i + 1) = b at *
                    simp only [go_sem, hel, cT_eq, ilt]
                    (repeat (refine And.intro (by omega) ?_))
                    refine call_pure h1 rfl ?_
                    simp only [go_sem]
                    refine ⟨i + 1, hlt', (by show t.kids.length - (i + 1) < t.kids.length - i; omega), ?_⟩
                    (refine gstep_list rfl ?_ ?_ ?_ ?_ <;> (try simp only [go_sem, tail_one, hPj, wrap_i64 (n := (i : Int) + 1) (by omega) (by omega)]) <;> (try simp))
                  · obtain rfl : i = t.kids.length := by omega
                    rw [hPe]
                    simp only [go_sem]
                    exact fz_tup2 (.one .t) (.one .t)
          · rw [decide_eq_false e] at hbe
            rw [if_neg e] at hp0
            simp only [go_sem, f1, f3, hel, hbe]
            (repeat (refine And.intro (by omega) ?_))
            have i0 : ((0 : Int) ≤ (i : Int)) = True := eq_true (by omega)
            by_cases iz : i = 0
            · have htz : out.take i = [] := by rw [iz]; rfl
              rw [htz] at hp0
              refine regA_any 12 rfl ?_
              refine AnyS.take' 0 rfl (by decide +kernel) (by decide +kernel) (by decide +kernel) (by simp only [go_sem]) (pureAt_move rfl) ?_
              refine AnyS.take' 1 rfl (by decide +kernel) (by decide +kernel) (by decide +kernel) (by simp only [go_sem]) (pureAt_move rfl) ?_
              refine AnyS.take' 2 rfl (by decide +kernel) (by decide +kernel) (by decide +kernel) (by simp only [go_sem]) (pureAt_slice (t := 58) (n := out.length) (l := 0) (hh := i) rfl (by simp only [go_sem]) (by simp only [go_sem]) (by simp only [go_sem]) (by simp only [go_sem] <;> exact hsz) (by simp only [go_sem]) (by simp only [go_sem]) (by simp only [go_sem, i0, Int.toNat_natCast] <;> rfl) (by omega) (by omega) (by simp only [go_sem])) ?_
              refine AnyS.take' 7 rfl (by decide +kernel) (by decide +kernel) (by decide +kernel) (by simp only [go_sem]) (pureAt_move rfl) ?_
              refine AnyS.take' 8 rfl (by decide +kernel) (by decide +kernel) (by decide +kernel) (by simp only [go_sem]) (pureAt_move rfl) ?_
              refine AnyS.take' 9 rfl (by decide +kernel) (by decide +kernel) (by decide +kernel) (by simp only [go_sem]) (pureAt_slice (t := 58) (n := out.length) (l := i) (hh := out.length) rfl (by simp only [go_sem]) (by simp only [go_sem]) (by simp only [go_sem]) (by simp only [go_sem] <;> exact hsz) (by simp only [go_sem]) (by simp only [go_sem, i0, Int.toNat_natCast] <;> rfl) (by simp only [go_sem]) (by omega) (by omega) (by simp only [go_sem])) ?_
              simp only [go_sem]
              refine AnyS.two' 3 4 (by decide +kernel) rfl rfl (by simp only [go_sem]) (by simp only [go_sem]) ?_ ?_
              · simp only [go_sem]
                refine opA_app_none (Nat.le_refl _) (by simp only [go_sem] <;> decide) (by simp only [go_sem] <;> rfl) (by simp only [go_sem, htz] <;> rfl) ?_
                (try simp only [go_sem])
                refine AnyS.one' 4 (by decide +kernel) rfl (by simp only [go_sem]) ?_
                simp only [go_sem]
                refine AnyS.one' 5 (by decide +kernel) rfl (by simp only [go_sem]) ?_
                simp only [go_sem]
                (try simp only [go_sem])
                refine AnyS.one' 6 (by decide +kernel) rfl (by simp only [go_sem]) ?_
                simp only [go_sem]
                refine opA_app_acc (sz := 3) (bytes := 48) (by simp only [go_sem, AppTy] <;> decide) cS_len [] [s] (b := 62) (by simp only [go_sem] <;> rfl) (by simp only [go_sem] <;> rfl) (by simp only [go_sem] <;> rfl) rfl (by simp) (by simp <;> omega) (by decide) ?_
                (try simp only [go_sem])
                refine AnyS.one' 10 (by decide +kernel) rfl (by simp only [go_sem]) ?_
                simp only [go_sem]
                refine opA_app_vec (Nat.le_refl _) (sz := 3) (bytes := 48) (by simp only [go_sem, AppTy] <;> decide) cS_len ([] ++ [s]) (out.drop i) (b := 62) (by simp only [go_sem] <;> rfl) rfl (by simp only [go_sem] <;> rfl) (by simp only [go_sem] <;> rfl) (by first | exact hel8 _ | exact hel9 _) (by simp <;> omega) (by decide) ?_
                (try simp only [go_sem])
                refine AnyS.one' 11 (by decide +kernel) rfl (by simp only [go_sem]) ?_
                simp only [go_sem]
                refine AnyS.done (by decide +kernel) ?_
                simp only [go_sem]
                refine pau (stL 90 [(3, .one (.ptr 3 0)), (8, .one (.t (eL cS p0.1))), (9, litB p0.2)] [(3, [.t (.lit (.int .i64 t.op)), .t (.lit (.bool t.num.1)), .t (eN t.num.2), .t (.lit (.string t.name)), .t (.lit (.int .i64 t.sort)), .t (eL cT t.kids)])]) ?_ ?_
                · refine GStep.trans (gstep_frz (b := 62) (sz := 3) (len := p0.1.length) (x := eL cS p0.1) (cs := cellsL cS p0.1) (by simp only [go_sem, hp0] <;> rfl) (treeOf_L cS_len)) ?_
                  (refine gstep_list rfl ?_ ?_ ?_ ?_ <;> (try simp only [go_sem, tail_one, hp0]) <;> (try simp))
                · obtain ⟨P, hP⟩ : ∃ P : Nat → List Sg × Bool, P = fun i => (t.kids.take i).foldl (fun p k => sigsT k p) p0 := ⟨_, rfl⟩
                  have hP0 : P 0 = p0 := by rw [hP]; rfl
                  have hPl : ∀ i, i ≤ t.kids.length → (P i).1.length ≤ p0.1.length + nodesL (t.kids.take i) ∧ LS (P i) := fun i hi => by rw [hP]; exact foldS_len _ _ hp2 (fun k hk => by have := nodes_kid (List.mem_of_mem_take hk); omega)
                  have hPn : ∀ i (h : i < t.kids.length), P (i + 1) = sigsT t.kids[i] (P i) := fun i h => by rw [hP]; exact fold_take_succ (f := fun p k => sigsT k p) (b := p0) h
                  have hPe : R = P t.kids.length := by rw [hR, hP]; show _ = (t.kids.take t.kids.length).foldl _ p0; rw [List.take_length]
                  simp only [go_sem]
                  refine loop_inv (fun i : Nat => stL 90 [(3, .one (.ptr 3 0)), (8, .one (.t (eL cS (P i).1))), (9, litB (P i).2), (12, litI .i64 i)] [(3, [.t (.lit (.int .i64 t.op)), .t (.lit (.bool t.num.1)), .t (eN t.num.2), .t (.lit (.string t.name)), .t (.lit (.int .i64 t.sort)), .t (eL cT t.kids)])]) (fun i => i ≤ t.kids.length) (fun i => t.kids.length - i) 0 ?_ (Nat.zero_le _) ?_
                  · (refine gstep_list rfl ?_ ?_ ?_ ?_ <;> (try simp only [go_sem, tail_one, hP0]) <;> (try simp))
                  · intro i hi
                    simp only [go_sem]
                    refine CondR_if (fun hlt => ?_) (fun hge => ?_)
                    · have hlt' : i < t.kids.length := by omega
                      have hel : elemD cT t.kids i = cT t.kids[i] := elemD_lt hlt'
                      have hn3 := hPn i hlt'
                      have hl3 := hPl i hi
                      have hns := nodesL_take_succ hlt'
                      have hnle := nodesL_take_le t.kids (i + 1)
                      have h1 := ih t.kids[i] (P i).1 (P i).2 (by have := nodes_kid (List.getElem_mem hlt'); omega) (by omega) (by omega) hl3.2
                      rw [show ((P i).1, (P i).2) = P i from rfl, ← hn3] at h1
                      have ilt : ((i : Int) < (t.kids.length : Int)) = True := eq_true (by omega)
                      generalize t.kids[i] = k at *
                      rw [show gT k = TV.agg (cT k) from rfl, cT_eq] at h1
                      generalize hPi : P i = a at *
                      generalize hPj : P (i + 1) = b at *
                      simp only [go_sem, hel, cT_eq, ilt]
                      (repeat (refine And.intro (by omega) ?_))
                      refine call_pure h1 rfl ?_
                      simp only [go_sem]
                      refine ⟨i + 1, hlt', (by show t.kids.length - (i + 1) < t.kids.length - i; omega), ?_⟩
                      (refine gstep_list rfl ?_ ?_ ?_ ?_ <;> (try simp only [go_sem, tail_one, hPj, wrap_i64 (n := (i : Int) + 1) (by omega) (by omega)]) <;> (try simp))
                    · obtain rfl : i = t.kids.length := by omega
                      rw [hPe]
                      simp only [go_sem]
                      exact fz_tup2 (.one .t) (.one .t)
              · simp only [go_sem]
                refine AnyS.two' 3 5 (by decide +kernel) rfl rfl (by simp only [go_sem]) (by simp only [go_sem]) ?_ ?_
                · simp only [go_sem]
                  refine opA_app_none (Nat.le_refl _) (by simp only [go_sem] <;> decide) (by simp only [go_sem] <;> rfl) (by simp only [go_sem, htz] <;> rfl) ?_
                  (try simp only [go_sem])
                  refine AnyS.one' 5 (by decide +kernel) rfl (by simp only [go_sem]) ?_
                  simp only [go_sem]
                  (try simp only [go_sem])
                  refine AnyS.one' 6 (by decide +kernel) rfl (by simp only [go_sem]) ?_
                  simp only [go_sem]
                  refine opA_app_acc (sz := 3) (bytes := 48) (by simp only [go_sem, AppTy] <;> decide) cS_len [] [s] (b := 62) (by simp only [go_sem] <;> rfl) (by simp only [go_sem] <;> rfl) (by simp only [go_sem] <;> rfl) rfl (by simp) (by simp <;> omega) (by decide) ?_
                  (try simp only [go_sem])
                  refine AnyS.one' 10 (by decide +kernel) rfl (by simp only [go_sem]) ?_
                  simp only [go_sem]
                  refine opA_app_vec (Nat.le_refl _) (sz := 3) (bytes := 48) (by simp only [go_sem, AppTy] <;> decide) cS_len ([] ++ [s]) (out.drop i) (b := 62) (by simp only [go_sem] <;> rfl) rfl (by simp only [go_sem] <;> rfl) (by simp only [go_sem] <;> rfl) (by first | exact hel8 _ | exact hel9 _) (by simp <;> omega) (by decide) ?_
                  (try simp only [go_sem])
                  refine AnyS.one' 11 (by decide +kernel) rfl (by simp only [go_sem]) ?_
                  simp only [go_sem]
                  refine AnyS.done (by decide +kernel) ?_
                  simp only [go_sem]
                  refine pau (stL 90 [(3, .one (.ptr 3 0)), (8, .one (.t (eL cS p0.1))), (9, litB p0.2)] [(3, [.t (.lit (.int .i64 t.op)), .t (.lit (.bool t.num.1)), .t (eN t.num.2), .t (.lit (.string t.name)), .t (.lit (.int .i64 t.sort)), .t (eL cT t.kids)])]) ?_ ?_
                  · refine GStep.trans (gstep_frz (b := 62) (sz := 3) (len := p0.1.length) (x := eL cS p0.1) (cs := cellsL cS p0.1) (by simp only [go_sem, hp0] <;> rfl) (treeOf_L cS_len)) ?_
                    (refine gstep_list rfl ?_ ?_ ?_ ?_ <;> (try simp only [go_sem, tail_one, hp0]) <;> (try simp))
                  · obtain ⟨P, hP⟩ : ∃ P : Nat → List Sg × Bool, P = fun i => (t.kids.take i).foldl (fun p k => sigsT k p) p0 := ⟨_, rfl⟩
                    have hP0 : P 0 = p0 := by rw [hP]; rfl
                    have hPl : ∀ i, i ≤ t.kids.length → (P i).1.length ≤ p0.1.length + nodesL (t.kids.take i) ∧ LS (P i) := fun i hi => by rw [hP]; exact foldS_len _ _ hp2 (fun k hk => by have := nodes_kid (List.mem_of_mem_take hk); omega)
                    have hPn : ∀ i (h : i < t.kids.length), P (i + 1) = sigsT t.kids[i] (P i) := fun i h => by rw [hP]; exact fold_take_succ (f := fun p k => sigsT k p) (b := p0) h
                    have hPe : R = P t.kids.length := by rw [hR, hP]; show _ = (t.kids.take t.kids.length).foldl _ p0; rw [List.take_length]
                    simp only [go_sem]
                    refine loop_inv (fun i : Nat => stL 90 [(3, .one (.ptr 3 0)), (8, .one (.t (eL cS (P i).1))), (9, litB (P i).2), (12, litI .i64 i)] [(3, [.t (.lit (.int .i64 t.op)), .t (.lit (.bool t.num.1)), .t (eN t.num.2), .t (.lit (.string t.name)), .t (.lit (.int .i64 t.sort)), .t (eL cT t.kids)])]) (fun i => i ≤ t.kids.length) (fun i => t.kids.length - i) 0 ?_ (Nat.zero_le _) ?_
                    · (refine gstep_list rfl ?_ ?_ ?_ ?_ <;> (try simp only [go_sem, tail_one, hP0]) <;> (try simp))
                    · intro i hi
                      simp only [go_sem]
                      refine CondR_if (fun hlt => ?_) (fun hge => ?_)
                      · have hlt' : i < t.kids.length := by omega
                        have hel : elemD cT t.kids i = cT t.kids[i] := elemD_lt hlt'
                        have hn3 := hPn i hlt'
                        have hl3 := hPl i hi
                        have hns := nodesL_take_succ hlt'
                        have hnle := nodesL_take_le t.kids (i + 1)
                        have h1 := ih t.kids[i] (P i).1 (P i).2 (by have := nodes_kid (List.getElem_mem hlt'); omega) (by omega) (by omega) hl3.2
                        rw [show ((P i).1, (P i).2) = P i from rfl, ← hn3] at h1
                        have ilt : ((i : Int) < (t.kids.length : Int)) = True := eq_true (by omega)
                        generalize t.kids[i] = k at *
                        rw [show gT k = TV.agg (cT k) from rfl, cT_eq] at h1
                        generalize hPi : P i = a at *
                        generalize hPj : P (i + 1) = b at *
                        simp only [go_sem, hel, cT_eq, ilt]
                        (repeat (refine And.intro (by omega) ?_))
                        refine call_pure h1 rfl ?_
                        simp only [go_sem]
                        refine ⟨i + 1, hlt', (by show t.kids.length - (i + 1) < t.kids.length - i; omega), ?_⟩
                        (refine gstep_list rfl ?_ ?_ ?_ ?_ <;> (try simp only [go_sem, tail_one, hPj, wrap_i64 (n := (i : Int) + 1) (by omega) (by omega)]) <;> (try simp))
                      · obtain rfl : i = t.kids.length := by omega
                        rw [hPe]
                        simp only [go_sem]
                        exact fz_tup2 (.one .t) (.one .t)
                · simp only [go_sem]
                  refine AnyS.one' 3 (by decide +kernel) rfl (by simp only [go_sem]) ?_
                  simp only [go_sem]
                  refine opA_app_none (Nat.le_refl _) (by simp only [go_sem] <;> decide) (by simp only [go_sem] <;> rfl) (by simp only [go_sem, htz] <;> rfl) ?_
                  (try simp only [go_sem])
                  refine AnyS.one' 6 (by decide +kernel) rfl (by simp only [go_sem]) ?_
                  simp only [go_sem]
                  refine opA_app_acc (sz := 3) (bytes := 48) (by simp only [go_sem, AppTy] <;> decide) cS_len [] [s] (b := 62) (by simp only [go_sem] <;> rfl) (by simp only [go_sem] <;> rfl) (by simp only [go_sem] <;> rfl) rfl (by simp) (by simp <;> omega) (by decide) ?_
                  (try simp only [go_sem])
                  refine AnyS.one' 10 (by decide +kernel) rfl (by simp only [go_sem]) ?_
                  simp only [go_sem]
                  refine opA_app_vec (Nat.le_refl _) (sz := 3) (bytes := 48) (by simp only [go_sem, AppTy] <;> decide) cS_len ([] ++ [s]) (out.drop i) (b := 62) (by simp only [go_sem] <;> rfl) rfl (by simp only [go_sem] <;> rfl) (by simp only [go_sem] <;> rfl) (by first | exact hel8 _ | exact hel9 _) (by simp <;> omega) (by decide) ?_
                  (try simp only [go_sem])
                  refine AnyS.one' 11 (by decide +kernel) rfl (by simp only [go_sem]) ?_
                  simp only [go_sem]
                  refine AnyS.done (by decide +kernel) ?_
                  simp only [go_sem]
                  refine pau (stL 90 [(3, .one (.ptr 3 0)), (8, .one (.t (eL cS p0.1))), (9, litB p0.2)] [(3, [.t (.lit (.int .i64 t.op)), .t (.lit (.bool t.num.1)), .t (eN t.num.2), .t (.lit (.string t.name)), .t (.lit (.int .i64 t.sort)), .t (eL cT t.kids)])]) ?_ ?_
                  · refine GStep.trans (gstep_frz (b := 62) (sz := 3) (len := p0.1.length) (x := eL cS p0.1) (cs := cellsL cS p0.1) (by simp only [go_sem, hp0] <;> rfl) (treeOf_L cS_len)) ?_
                    (refine gstep_list rfl ?_ ?_ ?_ ?_ <;> (try simp only [go_sem, tail_one, hp0]) <;> (try simp))
                  · obtain ⟨P, hP⟩ : ∃ P : Nat → List Sg × Bool, P = fun i => (t.kids.take i).foldl (fun p k => sigsT k p) p0 := ⟨_, rfl⟩
                    have hP0 : P 0 = p0 := by rw [hP]; rfl
                    have hPl : ∀ i, i ≤ t.kids.length → (P i).1.length ≤ p0.1.length + nodesL (t.kids.take i) ∧ LS (P i) := fun i hi => by rw [hP]; exact foldS_len _ _ hp2 (fun k hk => by have := nodes_kid (List.mem_of_mem_take hk); omega)
                    have hPn : ∀ i (h : i < t.kids.length), P (i + 1) = sigsT t.kids[i] (P i) := fun i h => by rw [hP]; exact fold_take_succ (f := fun p k => sigsT k p) (b := p0) h
                    have hPe : R = P t.kids.length := by rw [hR, hP]; show _ = (t.kids.take t.kids.length).foldl _ p0; rw [List.take_length]
                    simp only [go_sem]
                    refine loop_inv (fun i : Nat => stL 90 [(3, .one (.ptr 3 0)), (8, .one (.t (eL cS (P i).1))), (9, litB (P i).2), (12, litI .i64 i)] [(3, [.t (.lit (.int .i64 t.op)), .t (.lit (.bool t.num.1)), .t (eN t.num.2), .t (.lit (.string t.name)), .t (.lit (.int .i64 t.sort)), .t (eL cT t.kids)])]) (fun i => i ≤ t.kids.length) (fun i => t.kids.length - i) 0 ?_ (Nat.zero_le _) ?_
                    · (refine gstep_list rfl ?_ ?_ ?_ ?_ <;> (try simp only [go_sem, tail_one, hP0]) <;> (try simp))
                    · intro i hi
                      simp only [go_sem]
                      refine CondR_if (fun hlt => ?_) (fun hge => ?_)
                      · have hlt' : i < t.kids.length := by omega
                        have hel : elemD cT t.kids i = cT t.kids[i] := elemD_lt hlt'
                        have hn3 := hPn i hlt'
                        have hl3 := hPl i hi
                        have hns := nodesL_take_succ hlt'
                        have hnle := nodesL_take_le t.kids (i + 1)
                        have h1 := ih t.kids[i] (P i).1 (P i).2 (by have := nodes_kid (List.getElem_mem hlt'); omega) (by omega) (by omega) hl3.2
                        rw [show ((P i).1, (P i).2) = P i from rfl, ← hn3] at h1
                        have ilt : ((i : Int) < (t.kids.length : Int)) = True := eq_true (by omega)
                        generalize t.kids[i] = k at *
                        rw [show gT k = TV.agg (cT k) from rfl, cT_eq] at h1
                        generalize hPi : P i = a at *
                        generalize hPj : P (i + 1) = b at *
                        simp only [go_sem, hel, cT_eq, ilt]
                        (repeat (refine And.intro (by omega) ?_))
                        refine call_pure h1 rfl ?_
                        simp only [go_sem]
                        refine ⟨i + 1, hlt', (by show t.kids.length - (i + 1) < t.kids.length - i; omega), ?_⟩
                        (refine gstep_list rfl ?_ ?_ ?_ ?_ <;> (try simp only [go_sem, tail_one, hPj, wrap_i64 (n := (i : Int) + 1) (by omega) (by omega)]) <;> (try simp))
                      · obtain rfl : i = t.kids.length := by omega
                        rw [hPe]
                        simp only [go_sem]
                        exact fz_tup2 (.one .t) (.one .t)
            · have hne : out.take i ≠ [] := fun e => by
                have : (out.take i).length = 0 := by rw [e]; rfl
                rw [List.length_take] at this; omega
              refine regA_any 12 rfl ?_
              refine AnyS.take' 0 rfl (by decide +kernel) (by decide +kernel) (by decide +kernel) (by simp only [go_sem]) (pureAt_move rfl) ?_
              refine AnyS.take' 1 rfl (by decide +kernel) (by decide +kernel) (by decide +kernel) (by simp only [go_sem]) (pureAt_move rfl) ?_
              refine AnyS.take' 2 rfl (by decide +kernel) (by decide +kernel) (by decide +kernel) (by simp only [go_sem]) (pureAt_slice (t := 58) (n := out.length) (l := 0) (hh := i) rfl (by simp only [go_sem]) (by simp only [go_sem]) (by simp only [go_sem]) (by simp only [go_sem] <;> exact hsz) (by simp only [go_sem]) (by simp only [go_sem]) (by simp only [go_sem, i0, Int.toNat_natCast] <;> rfl) (by omega) (by omega) (by simp only [go_sem])) ?_
              refine AnyS.take' 7 rfl (by decide +kernel) (by decide +kernel) (by decide +kernel) (by simp only [go_sem]) (pureAt_move rfl) ?_
              refine AnyS.take' 8 rfl (by decide +kernel) (by decide +kernel) (by decide +kernel) (by simp only [go_sem]) (pureAt_move rfl) ?_
              refine AnyS.take' 9 rfl (by decide +kernel) (by decide +kernel) (by decide +kernel) (by simp only [go_sem]) (pureAt_slice (t := 58) (n := out.length) (l := i) (hh := out.length) rfl (by simp only [go_sem]) (by simp only [go_sem]) (by simp only [go_sem]) (by simp only [go_sem] <;> exact hsz) (by simp only [go_sem]) (by simp only [go_sem, i0, Int.toNat_natCast] <;> rfl) (by simp only [go_sem]) (by omega) (by omega) (by simp only [go_sem])) ?_
              simp only [go_sem]
              refine AnyS.two' 3 4 (by decide +kernel) rfl rfl (by simp only [go_sem]) (by simp only [go_sem]) ?_ ?_
              · simp only [go_sem]
                refine opA_app_nil (Nat.le_refl _) (sz := 3) (bytes := 48) (by simp only [go_sem, AppTy] <;> decide) cS_len (out.take i) (by simp only [go_sem] <;> rfl) (by simp only [go_sem] <;> rfl) (by first | exact hel7 _ | rfl) hne (by rw [List.length_take]; omega) (by simp only [go_sem] <;> rfl) (by decide) ?_
                (try simp only [go_sem])
                refine AnyS.one' 4 (by decide +kernel) rfl (by simp only [go_sem]) ?_
                simp only [go_sem]
                refine AnyS.one' 5 (by decide +kernel) rfl (by simp only [go_sem]) ?_
                simp only [go_sem]
                (try simp only [go_sem])
                refine AnyS.one' 6 (by decide +kernel) rfl (by simp only [go_sem]) ?_
                simp only [go_sem]
                refine opA_app_vec (Nat.le_refl _) (sz := 3) (bytes := 48) (by simp only [go_sem, AppTy] <;> decide) cS_len (out.take i) [s] (b := 62) (by simp only [go_sem] <;> rfl) rfl (by simp only [go_sem] <;> rfl) (by simp only [go_sem] <;> rfl) rfl (by rw [List.length_take]; simp <;> omega) (by decide) ?_
                (try simp only [go_sem])
                refine AnyS.one' 10 (by decide +kernel) rfl (by simp only [go_sem]) ?_
                simp only [go_sem]
                refine opA_app_vec (Nat.le_refl _) (sz := 3) (bytes := 48) (by simp only [go_sem, AppTy] <;> decide) cS_len ((out.take i) ++ [s]) (out.drop i) (b := 62) (by simp only [go_sem] <;> rfl) rfl (by simp only [go_sem] <;> rfl) (by simp only [go_sem] <;> rfl) (by first | exact hel8 _ | exact hel9 _) (by simp <;> omega) (by decide) ?_
                (try simp only [go_sem])
                refine AnyS.one' 11 (by decide +kernel) rfl (by simp only [go_sem]) ?_
                simp only [go_sem]
                refine AnyS.done (by decide +kernel) ?_
                simp only [go_sem]
                refine pau (stL 90 [(3, .one (.ptr 3 0)), (8, .one (.t (eL cS p0.1))), (9, litB p0.2)] [(3, [.t (.lit (.int .i64 t.op)), .t (.lit (.bool t.num.1)), .t (eN t.num.2), .t (.lit (.string t.name)), .t (.lit (.int .i64 t.sort)), .t (eL cT t.kids)])]) ?_ ?_
                · refine GStep.trans (gstep_frz (b := 62) (sz := 3) (len := p0.1.length) (x := eL cS p0.1) (cs := cellsL cS p0.1) (by simp only [go_sem, hp0] <;> rfl) (treeOf_L cS_len)) ?_
                  (refine gstep_list rfl ?_ ?_ ?_ ?_ <;> (try simp only [go_sem, tail_one, hp0]) <;> (try simp))
                · obtain ⟨P, hP⟩ : ∃ P : Nat → List Sg × Bool, P = fun i => (t.kids.take i).foldl (fun p k => sigsT k p) p0 := ⟨_, rfl⟩
                  have hP0 : P 0 = p0 := by rw [hP]; rfl
                  have hPl : ∀ i, i ≤ t.kids.length → (P i).1.length ≤ p0.1.length + nodesL (t.kids.take i) ∧ LS (P i) := fun i hi => by rw [hP]; exact foldS_len _ _ hp2 (fun k hk => by have := nodes_kid (List.mem_of_mem_take hk); omega)
                  have hPn : ∀ i (h : i < t.kids.length), P (i + 1) = sigsT t.kids[i] (P i) := fun i h => by rw [hP]; exact fold_take_succ (f := fun p k => sigsT k p) (b := p0) h
                  have hPe : R = P t.kids.length := by rw [hR, hP]; show _ = (t.kids.take t.kids.length).foldl _ p0; rw [List.take_length]
                  simp only [go_sem]
                  refine loop_inv (fun i : Nat => stL 90 [(3, .one (.ptr 3 0)), (8, .one (.t (eL cS (P i).1))), (9, litB (P i).2), (12, litI .i64 i)] [(3, [.t (.lit (.int .i64 t.op)), .t (.lit (.bool t.num.1)), .t (eN t.num.2), .t (.lit (.string t.name)), .t (.lit (.int .i64 t.sort)), .t (eL cT t.kids)])]) (fun i => i ≤ t.kids.length) (fun i => t.kids.length - i) 0 ?_ (Nat.zero_le _) ?_
                  · (refine gstep_list rfl ?_ ?_ ?_ ?_ <;> (try simp only [go_sem, tail_one, hP0]) <;> (try simp))
                  · intro i hi
                    simp only [go_sem]
                    refine CondR_if (fun hlt => ?_) (fun hge => ?_)
                    · have hlt' : i < t.kids.length := by omega
                      have hel : elemD cT t.kids i = cT t.kids[i] := elemD_lt hlt'
                      have hn3 := hPn i hlt'
                      have hl3 := hPl i hi
                      have hns := nodesL_take_succ hlt'
                      have hnle := nodesL_take_le t.kids (i + 1)
                      have h1 := ih t.kids[i] (P i).1 (P i).2 (by have := nodes_kid (List.getElem_mem hlt'); omega) (by omega) (by omega) hl3.2
                      rw [show ((P i).1, (P i).2) = P i from rfl, ← hn3] at h1
                      have ilt : ((i : Int) < (t.kids.length : Int)) = True := eq_true (by omega)
                      generalize t.kids[i] = k at *
                      rw [show gT k = TV.agg (cT k) from rfl, cT_eq] at h1
                      generalize hPi : P i = a at *
                      generalize hPj : P (i + 1) = b at *
                      simp only [go_sem, hel, cT_eq, ilt]
                      (repeat (refine And.intro (by omega) ?_))
                      refine call_pure h1 rfl ?_
                      simp only [go_sem]
                      refine ⟨i + 1, hlt', (by show t.kids.length - (i + 1) < t.kids.length - i; omega), ?_⟩
                      (refine gstep_list rfl ?_ ?_ ?_ ?_ <;> (try simp only [go_sem, tail_one, hPj, wrap_i64 (n := (i : Int) + 1) (by omega) (by omega)]) <;> (try simp))
                    · obtain rfl : i = t.kids.length := by omega
                      rw [hPe]
                      simp only [go_sem]
                      exact fz_tup2 (.one .t) (.one .t)
              · simp only [go_sem]
                refine AnyS.two' 3 5 (by decide +kernel) rfl rfl (by simp only [go_sem]) (by simp only [go_sem]) ?_ ?_
                · simp only [go_sem]
                  refine opA_app_nil (Nat.le_refl _) (sz := 3) (bytes := 48) (by simp only [go_sem, AppTy] <;> decide) cS_len (out.take i) (by simp only [go_sem] <;> rfl) (by simp only [go_sem] <;> rfl) (by first | exact hel7 _ | rfl) hne (by rw [List.length_take]; omega) (by simp only [go_sem] <;> rfl) (by decide) ?_
                  (try simp only [go_sem])
                  refine AnyS.one' 5 (by decide +kernel) rfl (by simp only [go_sem]) ?_
                  simp only [go_sem]
                  (try simp only [go_sem])
                  refine AnyS.one' 6 (by decide +kernel) rfl (by simp only [go_sem]) ?_
                  simp only [go_sem]
                  refine opA_app_vec (Nat.le_refl _) (sz := 3) (bytes := 48) (by simp only [go_sem, AppTy] <;> decide) cS_len (out.take i) [s] (b := 62) (by simp only [go_sem] <;> rfl) rfl (by simp only [go_sem] <;> rfl) (by simp only [go_sem] <;> rfl) rfl (by rw [List.length_take]; simp <;> omega) (by decide) ?_
                  (try simp only [go_sem])
                  refine AnyS.one' 10 (by decide +kernel) rfl (by simp only [go_sem]) ?_
                  simp only [go_sem]
                  refine opA_app_vec (Nat.le_refl _) (sz := 3) (bytes := 48) (by simp only [go_sem, AppTy] <;> decide) cS_len ((out.take i) ++ [s]) (out.drop i) (b := 62) (by simp only [go_sem] <;> rfl) rfl (by simp only [go_sem] <;> rfl) (by simp only [go_sem] <;> rfl) (by first | exact hel8 _ | exact hel9 _) (by simp <;> omega) (by decide) ?_
                  (try simp only [go_sem])
                  refine AnyS.one' 11 (by decide +kernel) rfl (by simp only [go_sem]) ?_
                  simp only [go_sem]
                  refine AnyS.done (by decide +kernel) ?_
                  simp only [go_sem]
                  refine pau (stL 90 [(3, .one (.ptr 3 0)), (8, .one (.t (eL cS p0.1))), (9, litB p0.2)] [(3, [.t (.lit (.int .i64 t.op)), .t (.lit (.bool t.num.1)), .t (eN t.num.2), .t (.lit (.string t.name)), .t (.lit (.int .i64 t.sort)), .t (eL cT t.kids)])]) ?_ ?_
                  · refine GStep.trans (gstep_frz (b := 62) (sz := 3) (len := p0.1.length) (x := eL cS p0.1) (cs := cellsL cS p0.1) (by simp only [go_sem, hp0] <;> rfl) (treeOf_L cS_len)) ?_
                    (refine gstep_list rfl ?_ ?_ ?_ ?_ <;> (try simp only [go_sem, tail_one, hp0]) <;> (try simp))
                  · obtain ⟨P, hP⟩ : ∃ P : Nat → List Sg × Bool, P = fun i => (t.kids.take i).foldl (fun p k => sigsT k p) p0 := ⟨_, rfl⟩
                    have hP0 : P 0 = p0 := by rw [hP]; rfl
                    have hPl : ∀ i, i ≤ t.kids.length → (P i).1.length ≤ p0.1.length + nodesL (t.kids.take i) ∧ LS (P i) := fun i hi => by rw [hP]; exact foldS_len _ _ hp2 (fun k hk => by have := nodes_kid (List.mem_of_mem_take hk); omega)
                    have hPn : ∀ i (h : i < t.kids.length), P (i + 1) = sigsT t.kids[i] (P i) := fun i h => by rw [hP]; exact fold_take_succ (f := fun p k => sigsT k p) (b := p0) h
                    have hPe : R = P t.kids.length := by rw [hR, hP]; show _ = (t.kids.take t.kids.length).foldl _ p0; rw [List.take_length]
                    simp only [go_sem]
                    refine loop_inv (fun i : Nat => stL 90 [(3, .one (.ptr 3 0)), (8, .one (.t (eL cS (P i).1))), (9, litB (P i).2), (12, litI .i64 i)] [(3, [.t (.lit (.int .i64 t.op)), .t (.lit (.bool t.num.1)), .t (eN t.num.2), .t (.lit (.string t.name)), .t (.lit (.int .i64 t.sort)), .t (eL cT t.kids)])]) (fun i => i ≤ t.kids.length) (fun i => t.kids.length - i) 0 ?_ (Nat.zero_le _) ?_
                    · (refine gstep_list rfl ?_ ?_ ?_ ?_ <;> (try simp only [go_sem, tail_one, hP0]) <;> (try simp))
                    · intro i hi
                      simp only [go_sem]
                      refine CondR_if (fun hlt => ?_) (fun hge => ?_)
                      · have hlt' : i < t.kids.length := by omega
                        have hel : elemD cT t.kids i = cT t.kids[i] := elemD_lt hlt'
                        have hn3 := hPn i hlt'
                        have hl3 := hPl i hi
                        have hns := nodesL_take_succ hlt'
                        have hnle := nodesL_take_le t.kids (i + 1)
                        have h1 := ih t.kids[i] (P i).1 (P i).2 (by have := nodes_kid (List.getElem_mem hlt'); omega) (by omega) (by omega) hl3.2
                        rw [show ((P i).1, (P i).2) = P i from rfl, ← hn3] at h1
                        have ilt : ((i : Int) < (t.kids.length : Int)) = True := eq_true (by omega)
                        generalize t.kids[i] = k at *
                        rw [show gT k = TV.agg (cT k) from rfl, cT_eq] at h1
                        generalize hPi : P i = a at *
                        generalize hPj : P (i + 1) = b at *
                        simp only [go_sem, hel, cT_eq, ilt]
                        (repeat (refine And.intro (by omega) ?_))
                        refine call_pure h1 rfl ?_
                        simp only [go_sem]
                        refine ⟨i + 1, hlt', (by show t.kids.length - (i + 1) < t.kids.length - i; omega), ?_⟩
                        (refine gstep_list rfl ?_ ?_ ?_ ?_ <;> (try simp only [go_sem, tail_one, hPj, wrap_i64 (n := (i : Int) + 1) (by omega) (by omega)]) <;> (try simp))
                      · obtain rfl : i = t.kids.length := by omega
                        rw [hPe]
                        simp only [go_sem]
                        exact fz_tup2 (.one .t) (.one .t)
                · simp only [go_sem]
                  refine AnyS.one' 3 (by decide +kernel) rfl (by simp only [go_sem]) ?_
                  simp only [go_sem]
                  refine opA_app_nil (Nat.le_refl _) (sz := 3) (bytes := 48) (by simp only [go_sem, AppTy] <;> decide) cS_len (out.take i) (by simp only [go_sem] <;> rfl) (by simp only [go_sem] <;> rfl) (by first | exact hel7 _ | rfl) hne (by rw [List.length_take]; omega) (by simp only [go_sem] <;> rfl) (by decide) ?_
                  (try simp only [go_sem])
                  refine AnyS.one' 6 (by decide +kernel) rfl (by simp only [go_sem]) ?_
                  simp only [go_sem]
                  refine opA_app_vec (Nat.le_refl _) (sz := 3) (bytes := 48) (by simp only [go_sem, AppTy] <;> decide) cS_len (out.take i) [s] (b := 62) (by simp only [go_sem] <;> rfl) rfl (by simp only [go_sem] <;> rfl) (by simp only [go_sem] <;> rfl) rfl (by rw [List.length_take]; simp <;> omega) (by decide) ?_
                  (try simp only [go_sem])
                  refine AnyS.one' 10 (by decide +kernel) rfl (by simp only [go_sem]) ?_
                  simp only [go_sem]
                  refine opA_app_vec (Nat.le_refl _) (sz := 3) (bytes := 48) (by simp only [go_sem, AppTy] <;> decide) cS_len ((out.take i) ++ [s]) (out.drop i) (b := 62) (by simp only [go_sem] <;> rfl) rfl (by simp only [go_sem] <;> rfl) (by simp only [go_sem] <;> rfl) (by first | exact hel8 _ | exact hel9 _) (by simp <;> omega) (by decide) ?_
                  (try simp only [go_sem])
                  refine AnyS.one' 11 (by decide +kernel) rfl (by simp only [go_sem]) ?_
                  simp only [go_sem]
                  refine AnyS.done (by decide +kernel) ?_
                  simp only [go_sem]
                  refine pau (stL 90 [(3, .one (.ptr 3 0)), (8, .one (.t (eL cS p0.1))), (9, litB p0.2)] [(3, [.t (.lit (.int .i64 t.op)), .t (.lit (.bool t.num.1)), .t (eN t.num.2), .t (.lit (.string t.name)), .t (.lit (.int .i64 t.sort)), .t (eL cT t.kids)])]) ?_ ?_
                  · refine GStep.trans (gstep_frz (b := 62) (sz := 3) (len := p0.1.length) (x := eL cS p0.1) (cs := cellsL cS p0.1) (by simp only [go_sem, hp0] <;> rfl) (treeOf_L cS_len)) ?_
                    (refine gstep_list rfl ?_ ?_ ?_ ?_ <;> (try simp only [go_sem, tail_one, hp0]) <;> (try simp))
                  · obtain ⟨P, hP⟩ : ∃ P : Nat → List Sg × Bool, P = fun i => (t.kids.take i).foldl (fun p k => sigsT k p) p0 := ⟨_, rfl⟩
                    have hP0 : P 0 = p0 := by rw [hP]; rfl
                    have hPl : ∀ i, i ≤ t.kids.length → (P i).1.length ≤ p0.1.length + nodesL (t.kids.take i) ∧ LS (P i) := fun i hi => by rw [hP]; exact foldS_len _ _ hp2 (fun k hk => by have := nodes_kid (List.mem_of_mem_take hk); omega)
                    have hPn : ∀ i (h : i < t.kids.length), P (i + 1) = sigsT t.kids[i] (P i) := fun i h => by rw [hP]; exact fold_take_succ (f := fun p k => sigsT k p) (b := p0) h
                    have hPe : R = P t.kids.length := by rw [hR, hP]; show _ = (t.kids.take t.kids.length).foldl _ p0; rw [List.take_length]
                    simp only [go_sem]
                    refine loop_inv (fun i : Nat => stL 90 [(3, .one (.ptr 3 0)), (8, .one (.t (eL cS (P i).1))), (9, litB (P i).2), (12, litI .i64 i)] [(3, [.t (.lit (.int .i64 t.op)), .t (.lit (.bool t.num.1)), .t (eN t.num.2), .t (.lit (.string t.name)), .t (.lit (.int .i64 t.sort)), .t (eL cT t.kids)])]) (fun i => i ≤ t.kids.length) (fun i => t.kids.length - i) 0 ?_ (Nat.zero_le _) ?_
                    · (refine gstep_list rfl ?_ ?_ ?_ ?_ <;> (try simp only [go_sem, tail_one, hP0]) <;> (try simp))
                    · intro i hi
                      simp only [go_sem]
                      refine CondR_if (fun hlt => ?_) (fun hge => ?_)
                      · have hlt' : i < t.kids.length := by omega
                        have hel : elemD cT t.kids i = cT t.kids[i] := elemD_lt hlt'
                        have hn3 := hPn i hlt'
                        have hl3 := hPl i hi
                        have hns := nodesL_take_succ hlt'
                        have hnle := nodesL_take_le t.kids (i + 1)
                        have h1 := ih t.kids[i] (P i).1 (P i).2 (by have := nodes_kid (List.getElem_mem hlt'); omega) (by omega) (by omega) hl3.2
                        rw [show ((P i).1, (P i).2) = P i from rfl, ← hn3] at h1
                        have ilt : ((i : Int) < (t.kids.length : Int)) = True := eq_true (by omega)
                        generalize t.kids[i] = k at *
                        rw [show gT k = TV.agg (cT k) from rfl, cT_eq] at h1
                        generalize hPi : P i = a at *
                        generalize hPj : P (i + 1) = b at *
                        simp only [go_sem, hel, cT_eq, ilt]
                        (repeat (refine And.intro (by omega) ?_))
                        refine call_pure h1 rfl ?_
                        simp only [go_sem]
                        refine ⟨i + 1, hlt', (by show t.kids.length - (i + 1) < t.kids.length - i; omega), ?_⟩
                        (refine gstep_list rfl ?_ ?_ ?_ ?_ <;> (try simp only [go_sem, tail_one, hPj, wrap_i64 (n := (i : Int) + 1) (by omega) (by omega)]) <;> (try simp))
                      · obtain rfl : i = t.kids.length := by omega
                        rw [hPe]
                        simp only [go_sem]
                        exact fz_tup2 (.one .t) (.one .t)
      · have f1 : decide ((i : Int) < (out.length : Int)) = false := decide_eq_false (by omega)
        have hix : out.findIdx (fun x => !(sLt x.1 s.1)) = out.length := by omega
        have hix : out.findIdx (fun x => !(sLt x.1 s.1)) = i := by omega
        have hp0 : p0 = (out.take i ++ [s] ++ out.drop i, fine) := by
          rw [hp0, dif_neg (by rw [hix]; omega)]
          simp only [hix]
        simp only [go_sem, f1]
        refine regA_by 0 rfl ?_
        simp only [go_sem, f1]
        have i0 : ((0 : Int) ≤ (i : Int)) = True := eq_true (by omega)
        by_cases iz : i = 0
        · have htz : out.take i = [] := by rw [iz]; rfl
          rw [htz] at hp0
          refine regA_any 12 rfl ?_
          refine AnyS.take' 0 rfl (by decide +kernel) (by decide +kernel) (by decide +kernel) (by simp only [go_sem]) (pureAt_move rfl) ?_
          refine AnyS.take' 1 rfl (by decide +kernel) (by decide +kernel) (by decide +kernel) (by simp only [go_sem]) (pureAt_move rfl) ?_
          refine AnyS.take' 2 rfl (by decide +kernel) (by decide +kernel) (by decide +kernel) (by simp only [go_sem]) (pureAt_slice (t := 58) (n := out.length) (l := 0) (hh := i) rfl (by simp only [go_sem]) (by simp only [go_sem]) (by simp only [go_sem]) (by simp only [go_sem] <;> exact hsz) (by simp only [go_sem]) (by simp only [go_sem]) (by simp only [go_sem, i0, Int.toNat_natCast] <;> rfl) (by omega) (by omega) (by simp only [go_sem])) ?_
          refine AnyS.take' 7 rfl (by decide +kernel) (by decide +kernel) (by decide +kernel) (by simp only [go_sem]) (pureAt_move rfl) ?_
          refine AnyS.take' 8 rfl (by decide +kernel) (by decide +kernel) (by decide +kernel) (by simp only [go_sem]) (pureAt_move rfl) ?_
          refine AnyS.take' 9 rfl (by decide +kernel) (by decide +kernel) (by decide +kernel) (by simp only [go_sem]) (pureAt_slice (t := 58) (n := out.length) (l := i) (hh := out.length) rfl (by simp only [go_sem]) (by simp only [go_sem]) (by simp only [go_sem]) (by simp only [go_sem] <;> exact hsz) (by simp only [go_sem]) (by simp only [go_sem, i0, Int.toNat_natCast] <;> rfl) (by simp only [go_sem]) (by omega) (by omega) (by simp only [go_sem])) ?_
          simp only [go_sem]
          refine AnyS.two' 3 4 (by decide +kernel) rfl rfl (by simp only [go_sem]) (by simp only [go_sem]) ?_ ?_
          · simp only [go_sem]
            refine opA_app_none (Nat.le_refl _) (by simp only [go_sem] <;> decide) (by simp only [go_sem] <;> rfl) (by simp only [go_sem, htz] <;> rfl) ?_
            (try simp only [go_sem])
            refine AnyS.one' 4 (by decide +kernel) rfl (by simp only [go_sem]) ?_
            simp only [go_sem]
            refine AnyS.one' 5 (by decide +kernel) rfl (by simp only [go_sem]) ?_
            simp only [go_sem]
            (try simp only [go_sem])
            refine AnyS.one' 6 (by decide +kernel) rfl (by simp only [go_sem]) ?_
            simp only [go_sem]
            refine opA_app_acc (sz := 3) (bytes := 48) (by simp only [go_sem, AppTy] <;> decide) cS_len [] [s] (b := 62) (by simp only [go_sem] <;> rfl) (by simp only [go_sem] <;> rfl) (by simp only [go_sem] <;> rfl) rfl (by simp) (by simp <;> omega) (by decide) ?_
            (try simp only [go_sem])
            refine AnyS.one' 10 (by decide +kernel) rfl (by simp only [go_sem]) ?_
            simp only [go_sem]
            refine opA_app_vec (Nat.le_refl _) (sz := 3) (bytes := 48) (by simp only [go_sem, AppTy] <;> decide) cS_len ([] ++ [s]) (out.drop i) (b := 62) (by simp only [go_sem] <;> rfl) rfl (by simp only [go_sem] <;> rfl) (by simp only [go_sem] <;> rfl) (by first | exact hel8 _ | exact hel9 _) (by simp <;> omega) (by decide) ?_
            (try simp only [go_sem])
            refine AnyS.one' 11 (by decide +kernel) rfl (by simp only [go_sem]) ?_
            simp only [go_sem]
            refine AnyS.done (by decide +kernel) ?_
            simp only [go_sem]
            refine pau (stL 90 [(3, .one (.ptr 3 0)), (8, .one (.t (eL cS p0.1))), (9, litB p0.2)] [(3, [.t (.lit (.int .i64 t.op)), .t (.lit (.bool t.num.1)), .t (eN t.num.2), .t (.lit (.string t.name)), .t (.lit (.int .i64 t.sort)), .t (eL cT t.kids)])]) ?_ ?_
            · refine GStep.trans (gstep_frz (b := 62) (sz := 3) (len := p0.1.length) (x := eL cS p0.1) (cs := cellsL cS p0.1) (by simp only [go_sem, hp0] <;> rfl) (treeOf_L cS_len)) ?_
              (refine gstep_list rfl ?_ ?_ ?_ ?_ <;> (try simp only [go_sem, tail_one, hp0]) <;> (try simp))
            · obtain ⟨P, hP⟩ : ∃ P : Nat → List Sg × Bool, P = fun i => (t.kids.take i).foldl (fun p k => sigsT k p) p0 := ⟨_, rfl⟩
              have hP0 : P 0 = p0 := by rw [hP]; rfl
              have hPl : ∀ i, i ≤ t.kids.length → (P i).1.length ≤ p0.1.length + nodesL (t.kids.take i) ∧ LS (P i) := fun i hi => by rw [hP]; exact foldS_len _ _ hp2 (fun k hk => by have := nodes_kid (List.mem_of_mem_take hk); omega)
              have hPn : ∀ i (h : i < t.kids.length), P (i + 1) = sigsT t.kids[i] (P i) := fun i h => by rw [hP]; exact fold_take_succ (f := fun p k => sigsT k p) (b := p0) h
              have hPe : R = P t.kids.length := by rw [hR, hP]; show _ = (t.kids.take t.kids.length).foldl _ p0; rw [List.take_length]
              simp only [go_sem]
              refine loop_inv (fun i : Nat => stL 90 [(3, .one (.ptr 3 0)), (8, .one (.t (eL cS (P i).1))), (9, litB (P i).2), (12, litI .i64 i)] [(3, [.t (.lit (.int .i64 t.op)), .t (.lit (.bool t.num.1)), .t (eN t.num.2), .t (.lit (.string t.name)), .t (.lit (.int .i64 t.sort)), .t (eL cT t.kids)])]) (fun i => i ≤ t.kids.length) (fun i => t.kids.length - i) 0 ?_ (Nat.zero_le _) ?_
              · (refine gstep_list rfl ?_ ?_ ?_ ?_ <;> (try simp only [go_sem, tail_one, hP0]) <;> (try simp))
              · intro i hi
                simp only [go_sem]
                refine CondR_if (fun hlt => ?_) (fun hge => ?_)
                · have hlt' : i < t.kids.length := by omega
                  have hel : elemD cT t.kids i = cT t.kids[i] := elemD_lt hlt'
                  have hn3 := hPn i hlt'
                  have hl3 := hPl i hi
                  have hns := nodesL_take_succ hlt'
                  have hnle := nodesL_take_le t.kids (i + 1)
                  have h1 := ih t.kids[i] (P i).1 (P i).2 (by have := nodes_kid (List.getElem_mem hlt'); omega) (by omega) (by omega) hl3.2
                  rw [show ((P i).1, (P i).2) = P i from rfl, ← hn3] at h1
                  have ilt : ((i : Int) < (t.kids.length : Int)) = True := eq_true (by omega)
                  generalize t.kids[i] = k at *
                  rw [show gT k = TV.agg (cT k) from rfl, cT_eq] at h1
                  generalize hPi : P i = a at *
                  generalize hPj : P (i + 1) = b at *
                  simp only [go_sem, hel, cT_eq, ilt]
                  (repeat (refine And.intro (by omega) ?_))
                  refine call_pure h1 rfl ?_
                  simp only [go_sem]
                  refine ⟨i + 1, hlt', (by show t.kids.length - (i + 1) < t.kids.length - i; omega), ?_⟩
                  (refine gstep_list rfl ?_ ?_ ?_ ?_ <;> (try simp only [go_sem, tail_one, hPj, wrap_i64 (n := (i : Int) + 1) (by omega) (by omega)]) <;> (try simp))
                · obtain rfl : i = t.kids.length := by omega
                  rw [hPe]
                  simp only [go_sem]
                  exact fz_tup2 (.one .t) (.one .t)
          · simp only [go_sem]
            refine AnyS.two' 3 5 (by decide +kernel) rfl rfl (by simp only [go_sem]) (by simp only [go_sem]) ?_ ?_
            · simp only [go_sem]
              refine opA_app_none (Nat.le_refl _) (by simp only [go_sem] <;> decide) (by simp only [go_sem] <;> rfl) (by simp only [go_sem, htz] <;> rfl) ?_
              (try simp only [go_sem])
              refine AnyS.one' 5 (by decide +kernel) rfl (by simp only [go_sem]) ?_
              simp only [go_sem]
              (try simp only [go_sem])
              refine AnyS.one' 6 (by decide +kernel) rfl (by simp only [go_sem]) ?_
              simp only [go_sem]
              refine opA_app_acc (sz := 3) (bytes := 48) (by simp only [go_sem, AppTy] <;> decide) cS_len [] [s] (b := 62) (by simp only [go_sem] <;> rfl) (by simp only [go_sem] <;> rfl) (by simp only [go_sem] <;> rfl) rfl (by simp) (by simp <;> omega) (by decide) ?_
              (try simp only [go_sem])
              refine AnyS.one' 10 (by decide +kernel) rfl (by simp only [go_sem]) ?_
              simp only [go_sem]
              refine opA_app_vec (Nat.le_refl _) (sz := 3) (bytes := 48) (by simp only [go_sem, AppTy] <;> decide) cS_len ([] ++ [s]) (out.drop i) (b := 62) (by simp only [go_sem] <;> rfl) rfl (by simp only [go_sem] <;> rfl) (by simp only [go_sem] <;> rfl) (by first | exact hel8 _ | exact hel9 _) (by simp <;> omega) (by decide) ?_
              (try simp only [go_sem])
              refine AnyS.one' 11 (by decide +kernel) rfl (by simp only [go_sem]) ?_
              simp only [go_sem]
              refine AnyS.done (by decide +kernel) ?_
              simp only [go_sem]
              refine pau (stL 90 [(3, .one (.ptr 3 0)), (8, .one (.t (eL cS p0.1))), (9, litB p0.2)] [(3, [.t (.lit (.int .i64 t.op)), .t (.lit (.bool t.num.1)), .t (eN t.num.2), .t (.lit (.string t.name)), .t (.lit (.int .i64 t.sort)), .t (eL cT t.kids)])]) ?_ ?_
              · refine GStep.trans (gstep_frz (b := 62) (sz := 3) (len := p0.1.length) (x := eL cS p0.1) (cs := cellsL cS p0.1) (by simp only [go_sem, hp0] <;> rfl) (treeOf_L cS_len)) ?_
                (refine gstep_list rfl ?_ ?_ ?_ ?_ <;> (try simp only [go_sem, tail_one, hp0]) <;> (try simp))
              · obtain ⟨P, hP⟩ : ∃ P : Nat → List Sg × Bool, P = fun i => (t.kids.take i).foldl (fun p k => sigsT k p) p0 := ⟨_, rfl⟩
                have hP0 : P 0 = p0 := by rw [hP]; rfl
                have hPl : ∀ i, i ≤ t.kids.length → (P i).1.length ≤ p0.1.length + nodesL (t.kids.take i) ∧ LS (P i) := fun i hi => by rw [hP]; exact foldS_len _ _ hp2 (fun k hk => by have := nodes_kid (List.mem_of_mem_take hk); omega)
                have hPn : ∀ i (h : i < t.kids.length), P (i + 1) = sigsT t.kids[i] (P i) := fun i h => by rw [hP]; exact fold_take_succ (f := fun p k => sigsT k p) (b := p0) h
                have hPe : R = P t.kids.length := by rw [hR, hP]; show _ = (t.kids.take t.kids.length).foldl _ p0; rw [List.take_length]
                simp only [go_sem]
                refine loop_inv (fun i : Nat => stL 90 [(3, .one (.ptr 3 0)), (8, .one (.t (eL cS (P i).1))), (9, litB (P i).2), (12, litI .i64 i)] [(3, [.t (.lit (.int .i64 t.op)), .t (.lit (.bool t.num.1)), .t (eN t.num.2), .t (.lit (.string t.name)), .t (.lit (.int .i64 t.sort)), .t (eL cT t.kids)])]) (fun i => i ≤ t.kids.length) (fun i => t.kids.length - i) 0 ?_ (Nat.zero_le _) ?_
                · (refine gstep_list rfl ?_ ?_ ?_ ?_ <;> (try simp only [go_sem, tail_one, hP0]) <;> (try simp))
                · intro i hi
                  simp only [go_sem]
                  refine CondR_if (fun hlt => ?_) (fun hge => ?_)
                  · have hlt' : i < t.kids.length := by omega
                    have hel : elemD cT t.kids i = cT t.kids[i] := elemD_lt hlt'
                    have hn3 := hPn i hlt'
                    have hl3 := hPl i hi
                    have hns := nodesL_take_succ hlt'
                    have hnle := nodesL_take_le t.kids (i + 1)
                    have h1 := ih t.kids[i] (P i).1 (P i).2 (by have := nodes_kid (List.getElem_mem hlt'); omega) (by omega) (by omega) hl3.2
                    rw [show ((P i).1, (P i).2) = P i from rfl, ← hn3] at h1
                    have ilt : ((i : Int) < (t.kids.length : Int)) = True := eq_true (by omega)
                    generalize t.kids[i] = k at *
                    rw [show gT k = TV.agg (cT k) from rfl, cT_eq] at h1
                    generalize hPi : P i = a at *
                    generalize hPj : P (i + 1) = b at *
                    simp only [go_sem, hel, cT_eq, ilt]
                    (repeat (refine And.intro (by omega) ?_))
                    refine call_pure h1 rfl ?_
                    simp only [go_sem]
                    refine ⟨i + 1, hlt', (by show t.kids.length - (i + 1) < t.kids.length - i; omega), ?_⟩
                    (refine gstep_list rfl ?_ ?_ ?_ ?_ <;> (try simp only [go_sem, tail_one, hPj, wrap_i64 (n := (i : Int) + 1) (by omega) (by omega)]) <;> (try simp))
                  · obtain rfl : i = t.kids.length := by omega
                    rw [hPe]
                    simp only [go_sem]
                    exact fz_tup2 (.one .t) (.one .t)
            · simp only [go_sem]
              refine AnyS.one' 3 (by decide +kernel) rfl (by simp only [go_sem]) ?_
              simp only [go_sem]
              refine opA_app_none (Nat.le_refl _) (by simp only [go_sem] <;> decide) (by simp only [go_sem] <;> rfl) (by simp only [go_sem, htz] <;> rfl) ?_
              (try simp only [go_sem])
              refine AnyS.one' 6 (by decide +kernel) rfl (by simp only [go_sem]) ?_
              simp only [go_sem]
              refine opA_app_acc (sz := 3) (bytes := 48) (by simp only [go_sem, AppTy] <;> decide) cS_len [] [s] (b := 62) (by simp only [go_sem] <;> rfl) (by simp only [go_sem] <;> rfl) (by simp only [go_sem] <;> rfl) rfl (by simp) (by simp <;> omega) (by decide) ?_
              (try simp only [go_sem])
              refine AnyS.one' 10 (by decide +kernel) rfl (by simp only [go_sem]) ?_
              simp only [go_sem]
              refine opA_app_vec (Nat.le_refl _) (sz := 3) (bytes := 48) (by simp only [go_sem, AppTy] <;> decide) cS_len ([] ++ [s]) (out.drop i) (b := 62) (by simp only [go_sem] <;> rfl) rfl (by simp only [go_sem] <;> rfl) (by simp only [go_sem] <;> rfl) (by first | exact hel8 _ | exact hel9 _) (by simp <;> omega) (by decide) ?_
              (try simp only [go_sem])
              refine AnyS.one' 11 (by decide +kernel) rfl (by simp only [go_sem]) ?_
              simp only [go_sem]
              refine AnyS.done (by decide +kernel) ?_
              simp only [go_sem]
              refine pau (stL 90 [(3, .one (.ptr 3 0)), (8, .one (.t (eL cS p0.1))), (9, litB p0.2)] [(3, [.t (.lit (.int .i64 t.op)), .t (.lit (.bool t.num.1)), .t (eN t.num.2), .t (.lit (.string t.name)), .t (.lit (.int .i64 t.sort)), .t (eL cT t.kids)])]) ?_ ?_
              · refine GStep.trans (gstep_frz (b := 62) (sz := 3) (len := p0.1.length) (x := eL cS p0.1) (cs := cellsL cS p0.1) (by simp only [go_sem, hp0] <;> rfl) (treeOf_L cS_len)) ?_
                (refine gstep_list rfl ?_ ?_ ?_ ?_ <;> (try simp only [go_sem, tail_one, hp0]) <;> (try simp))
              · obtain ⟨P, hP⟩ : ∃ P : Nat → List Sg × Bool, P = fun i => (t.kids.take i).foldl (fun p k => sigsT k p) p0 := ⟨_, rfl⟩
                have hP0 : P 0 = p0 := by rw [hP]; rfl
                have hPl : ∀ i, i ≤ t.kids.length → (P i).1.length ≤ p0.1.length + nodesL (t.kids.take i) ∧ LS (P i) := fun i hi => by rw [hP]; exact foldS_len _ _ hp2 (fun k hk => by have := nodes_kid (List.mem_of_mem_take hk); omega)
                have hPn : ∀ i (h : i < t.kids.length), P (i + 1) = sigsT t.kids[i] (P i) := fun i h => by rw [hP]; exact fold_take_succ (f := fun p k => sigsT k p) (b := p0) h
                have hPe : R = P t.kids.length := by rw [hR, hP]; show _ = (t.kids.take t.kids.length).foldl _ p0; rw [List.take_length]
                simp only [go_sem]
                refine loop_inv (fun i : Nat => stL 90 [(3, .one (.ptr 3 0)), (8, .one (.t (eL cS (P i).1))), (9, litB (P i).2), (12, litI .i64 i)] [(3, [.t (.lit (.int .i64 t.op)), .t (.lit (.bool t.num.1)), .t (eN t.num.2), .t (.lit (.string t.name)), .t (.lit (.int .i64 t.sort)), .t (eL cT t.kids)])]) (fun i => i ≤ t.kids.length) (fun i => t.kids.length - i) 0 ?_ (Nat.zero_le _) ?_
                · (refine gstep_list rfl ?_ ?_ ?_ ?_ <;> (try simp only [go_sem, tail_one, hP0]) <;> (try simp))
                · intro i hi
                  simp only [go_sem]
                  refine CondR_if (fun hlt => ?_) (fun hge => ?_)
                  · have hlt' : i < t.kids.length := by omega
                    have hel : elemD cT t.kids i = cT t.kids[i] := elemD_lt hlt'
                    have hn3 := hPn i hlt'
                    have hl3 := hPl i hi
                    have hns := nodesL_take_succ hlt'
                    have hnle := nodesL_take_le t.kids (i + 1)
                    have h1 := ih t.kids[i] (P i).1 (P i).2 (by have := nodes_kid (List.getElem_mem hlt'); omega) (by omega) (by omega) hl3.2
                    rw [show ((P i).1, (P i).2) = P i from rfl, ← hn3] at h1
                    have ilt : ((i : Int) < (t.kids.length : Int)) = True := eq_true (by omega)
                    generalize t.kids[i] = k at *
                    rw [show gT k = TV.agg (cT k) from rfl, cT_eq] at h1
                    generalize hPi : P i = a at *
                    generalize hPj : P (i + 1) = b at *
                    simp only [go_sem, hel, cT_eq, ilt]
                    (repeat (refine And.intro (by omega) ?_))
                    refine call_pure h1 rfl ?_
                    simp only [go_sem]
                    refine ⟨i + 1, hlt', (by show t.kids.length - (i + 1) < t.kids.length - i; omega), ?_⟩
                    (refine gstep_list rfl ?_ ?_ ?_ ?_ <;> (try simp only [go_sem, tail_one, hPj, wrap_i64 (n := (i : Int) + 1) (by omega) (by omega)]) <;> (try simp))
                  · obtain rfl : i = t.kids.length := by omega
                    rw [hPe]
                    simp only [go_sem]
                    exact fz_tup2 (.one .t) (.one .t)
        · have hne : out.take i ≠ [] := fun e => by
            have : (out.take i).length = 0 := by rw [e]; rfl
            rw [List.length_take] at this; omega
          refine regA_any 12 rfl ?_
          refine AnyS.take' 0 rfl (by decide +kernel) (by decide +kernel) (by decide +kernel) (by simp only [go_sem]) (pureAt_move rfl) ?_
          refine AnyS.take' 1 rfl (by decide +kernel) (by decide +kernel) (by decide +kernel) (by simp only [go_sem]) (pureAt_move rfl) ?_
          refine AnyS.take' 2 rfl (by decide +kernel) (by decide +kernel) (by decide +kernel) (by simp only [go_sem]) (pureAt_slice (t := 58) (n := out.length) (l := 0) (hh := i) rfl (by simp only [go_sem]) (by simp only [go_sem]) (by simp only [go_sem]) (by simp only [go_sem] <;> exact hsz) (by simp only [go_sem]) (by simp only [go_sem]) (by simp only [go_sem, i0, Int.toNat_natCast] <;> rfl) (by omega) (by omega) (by simp only [go_sem])) ?_
          refine AnyS.take' 7 rfl (by decide +kernel) (by decide +kernel) (by decide +kernel) (by simp only [go_sem]) (pureAt_move rfl) ?_
          refine AnyS.take' 8 rfl (by decide +kernel) (by decide +kernel) (by decide +kernel) (by simp only [go_sem]) (pureAt_move rfl) ?_
          refine AnyS.take' 9 rfl (by decide +kernel) (by decide +kernel) (by decide +kernel) (by simp only [go_sem]) (pureAt_slice (t := 58) (n := out.length) (l := i) (hh := out.length) rfl (by simp only [go_sem]) (by simp only [go_sem]) (by simp only [go_sem]) (by simp only [go_sem] <;> exact hsz) (by simp only [go_sem]) (by simp only [go_sem, i0, Int.toNat_natCast] <;> rfl) (by simp only [go_sem]) (by omega) (by omega) (by simp only [go_sem])) ?_
          simp only [go_sem]
          refine AnyS.two' 3 4 (by decide +kernel) rfl rfl (by simp only [go_sem]) (by simp only [go_sem]) ?_ ?_
          · simp only [go_sem]
            refine opA_app_nil (Nat.le_refl _) (sz := 3) (bytes := 48) (by simp only [go_sem, AppTy] <;> decide) cS_len (out.take i) (by simp only [go_sem] <;> rfl) (by simp only [go_sem] <;> rfl) (by first | exact hel7 _ | rfl) hne (by rw [List.length_take]; omega) (by simp only [go_sem] <;> rfl) (by decide) ?_
            (try simp only [go_sem])
            refine AnyS.one' 4 (by decide +kernel) rfl (by simp only [go_sem]) ?_
            simp only [go_sem]
            refine AnyS.one' 5 (by decide +kernel) rfl (by simp only [go_sem]) ?_
            simp only [go_sem]
            (try simp only [go_sem])
            refine AnyS.one' 6 (by decide +kernel) rfl (by simp only [go_sem]) ?_
            simp only [go_sem]
            refine opA_app_vec (Nat.le_refl _) (sz := 3) (bytes := 48) (by simp only [go_sem, AppTy] <;> decide) cS_len (out.take i) [s] (b := 62) (by simp only [go_sem] <;> rfl) rfl (by simp only [go_sem] <;> rfl) (by simp only [go_sem] <;> rfl) rfl (by rw [List.length_take]; simp <;> omega) (by decide) ?_
            (try simp only [go_sem])
            refine AnyS.one' 10 (by decide +kernel) rfl (by simp only [go_sem]) ?_
            simp only [go_sem]
            refine opA_app_vec (Nat.le_refl _) (sz := 3) (bytes := 48) (by simp only [go_sem, AppTy] <;> decide) cS_len ((out.take i) ++ [s]) (out.drop i) (b := 62) (by simp only [go_sem] <;> rfl) rfl (by simp only [go_sem] <;> rfl) (by simp only [go_sem] <;> rfl) (by first | exact hel8 _ | exact hel9 _) (by simp <;> omega) (by decide) ?_
            (try simp only [go_sem])
            refine AnyS.one' 11 (by decide +kernel) rfl (by simp only [go_sem]) ?_
            simp only [go_sem]
            refine AnyS.done (by decide +kernel) ?_
            simp only [go_sem]
            refine pau (stL 90 [(3, .one (.ptr 3 0)), (8, .one (.t (eL cS p0.1))), (9, litB p0.2)] [(3, [.t (.lit (.int .i64 t.op)), .t (.lit (.bool t.num.1)), .t (eN t.num.2), .t (.lit (.string t.name)), .t (.lit (.int .i64 t.sort)), .t (eL cT t.kids)])]) ?_ ?_
            · refine GStep.trans (gstep_frz (b := 62) (sz := 3) (len := p0.1.length) (x := eL cS p0.1) (cs := cellsL cS p0.1) (by simp only [go_sem, hp0] <;> rfl) (treeOf_L cS_len)) ?_
              (refine gstep_list rfl ?_ ?_ ?_ ?_ <;> (try simp only [go_sem, tail_one, hp0]) <;> (try simp))
            · obtain ⟨P, hP⟩ : ∃ P : Nat → List Sg × Bool, P = fun i => (t.kids.take i).foldl (fun p k => sigsT k p) p0 := ⟨_, rfl⟩
              have hP0 : P 0 = p0 := by rw [hP]; rfl
              have hPl : ∀ i, i ≤ t.kids.length → (P i).1.length ≤ p0.1.length + nodesL (t.kids.take i) ∧ LS (P i) := fun i hi => by rw [hP]; exact foldS_len _ _ hp2 (fun k hk => by have := nodes_kid (List.mem_of_mem_take hk); omega)
              have hPn : ∀ i (h : i < t.kids.length), P (i + 1) = sigsT t.kids[i] (P i) := fun i h => by rw [hP]; exact fold_take_succ (f := fun p k => sigsT k p) (b := p0) h
              have hPe : R = P t.kids.length := by rw [hR, hP]; show _ = (t.kids.take t.kids.length).foldl _ p0; rw [List.take_length]
              simp only [go_sem]
              refine loop_inv (fun i : Nat => stL 90 [(3, .one (.ptr 3 0)), (8, .one (.t (eL cS (P i).1))), (9, litB (P i).2), (12, litI .i64 i)] [(3, [.t (.lit (.int .i64 t.op)), .t (.lit (.bool t.num.1)), .t (eN t.num.2), .t (.lit (.string t.name)), .t (.lit (.int .i64 t.sort)), .t (eL cT t.kids)])]) (fun i => i ≤ t.kids.length) (fun i => t.kids.length - i) 0 ?_ (Nat.zero_le _) ?_
              · (refine gstep_list rfl ?_ ?_ ?_ ?_ <;> (try simp only [go_sem, tail_one, hP0]) <;> (try simp))
              · intro i hi
                simp only [go_sem]
                refine CondR_if (fun hlt => ?_) (fun hge => ?_)
                · have hlt' : i < t.kids.length := by omega
                  have hel : elemD cT t.kids i = cT t.kids[i] := elemD_lt hlt'
                  have hn3 := hPn i hlt'
                  have hl3 := hPl i hi
                  have hns := nodesL_take_succ hlt'
                  have hnle := nodesL_take_le t.kids (i + 1)
                  have h1 := ih t.kids[i] (P i).1 (P i).2 (by have := nodes_kid (List.getElem_mem hlt'); omega) (by omega) (by omega) hl3.2
                  rw [show ((P i).1, (P i).2) = P i from rfl, ← hn3] at h1
                  have ilt : ((i : Int) < (t.kids.length : Int)) = True := eq_true (by omega)
                  generalize t.kids[i] = k at *
                  rw [show gT k = TV.agg (cT k) from rfl, cT_eq] at h1
                  generalize hPi : P i = a at *
                  generalize hPj : P (i + 1) = b at *
                  simp only [go_sem, hel, cT_eq, ilt]
                  (repeat (refine And.intro (by omega) ?_))
                  refine call_pure h1 rfl ?_
                  simp only [go_sem]
                  refine ⟨i + 1, hlt', (by show t.kids.length - (i + 1) < t.kids.length - i; omega), ?_⟩
                  (refine gstep_list rfl ?_ ?_ ?_ ?_ <;> (try simp only [go_sem, tail_one, hPj, wrap_i64 (n := (i : Int) + 1) (by omega) (by omega)]) <;> (try simp))
                · obtain rfl : i = t.kids.length := by omega
                  rw [hPe]
                  simp only [go_sem]
                  exact fz_tup2 (.one .t) (.one .t)
          · simp only [go_sem]
            refine AnyS.two' 3 5 (by decide +kernel) rfl rfl (by simp only [go_sem]) (by simp only [go_sem]) ?_ ?_
            · simp only [go_sem]
              refine opA_app_nil (Nat.le_refl _) (sz := 3) (bytes := 48) (by simp only [go_sem, AppTy] <;> decide) cS_len (out.take i) (by simp only [go_sem] <;> rfl) (by simp only [go_sem] <;> rfl) (by first | exact hel7 _ | rfl) hne (by rw [List.length_take]; omega) (by simp only [go_sem] <;> rfl) (by decide) ?_
              (try simp only [go_sem])
              refine AnyS.one' 5 (by decide +kernel) rfl (by simp only [go_sem]) ?_
              simp only [go_sem]
              (try simp only [go_sem])
              refine AnyS.one' 6 (by decide +kernel) rfl (by simp only [go_sem]) ?_
              simp only [go_sem]
              refine opA_app_vec (Nat.le_refl _) (sz := 3) (bytes := 48) (by simp only [go_sem, AppTy] <;> decide) cS_len (out.take i) [s] (b := 62) (by simp only [go_sem] <;> rfl) rfl (by simp only [go_sem] <;> rfl) (by simp only [go_sem] <;> rfl) rfl (by rw [List.length_take]; simp <;> omega) (by decide) ?_
              (try simp only [go_sem])
              refine AnyS.one' 10 (by decide +kernel) rfl (by simp only [go_sem]) ?_
              simp only [go_sem]
              refine opA_app_vec (Nat.le_refl _) (sz := 3) (bytes := 48) (by simp only [go_sem, AppTy] <;> decide) cS_len ((out.take i) ++ [s]) (out.drop i) (b := 62) (by simp only [go_sem] <;> rfl) rfl (by simp only [go_sem] <;> rfl) (by simp only [go_sem] <;> rfl) (by first | exact hel8 _ | exact hel9 _) (by simp <;> omega) (by decide) ?_
              (try simp only [go_sem])
              refine AnyS.one' 11 (by decide +kernel) rfl (by simp only [go_sem]) ?_
              simp only [go_sem]
              refine AnyS.done (by decide +kernel) ?_
              simp only [go_sem]
              refine pau (stL 90 [(3, .one (.ptr 3 0)), (8, .one (.t (eL cS p0.1))), (9, litB p0.2)] [(3, [.t (.lit (.int .i64 t.op)), .t (.lit (.bool t.num.1)), .t (eN t.num.2), .t (.lit (.string t.name)), .t (.lit (.int .i64 t.sort)), .t (eL cT t.kids)])]) ?_ ?_
              · refine GStep.trans (gstep_frz (b := 62) (sz := 3) (len := p0.1.length) (x := eL cS p0.1) (cs := cellsL cS p0.1) (by simp only [go_sem, hp0] <;> rfl) (treeOf_L cS_len)) ?_
                (refine gstep_list rfl ?_ ?_ ?_ ?_ <;> (try simp only [go_sem, tail_one, hp0]) <;> (try simp))
              · obtain ⟨P, hP⟩ : ∃ P : Nat → List Sg × Bool, P = fun i => (t.kids.take i).foldl (fun p k => sigsT k p) p0 := ⟨_, rfl⟩
                have hP0 : P 0 = p0 := by rw [hP]; rfl
                have hPl : ∀ i, i ≤ t.kids.length → (P i).1.length ≤ p0.1.length + nodesL (t.kids.take i) ∧ LS (P i) := fun i hi => by rw [hP]; exact foldS_len _ _ hp2 (fun k hk => by have := nodes_kid (List.mem_of_mem_take hk); omega)
                have hPn : ∀ i (h : i < t.kids.length), P (i + 1) = sigsT t.kids[i] (P i) := fun i h => by rw [hP]; exact fold_take_succ (f := fun p k => sigsT k p) (b := p0) h
                have hPe : R = P t.kids.length := by rw [hR, hP]; show _ = (t.kids.take t.kids.length).foldl _ p0; rw [List.take_length]
                simp only [go_sem]
                refine loop_inv (fun i : Nat => stL 90 [(3, .one (.ptr 3 0)), (8, .one (.t (eL cS (P i).1))), (9, litB (P i).2), (12, litI .i64 i)] [(3, [.t (.lit (.int .i64 t.op)), .t (.lit (.bool t.num.1)), .t (eN t.num.2), .t (.lit (.string t.name)), .t (.lit (.int .i64 t.sort)), .t (eL cT t.kids)])]) (fun i => i ≤ t.kids.length) (fun i => t.kids.length - i) 0 ?_ (Nat.zero_le _) ?_
                · (refine gstep_list rfl ?_ ?_ ?_ ?_ <;> (try simp only [go_sem, tail_one, hP0]) <;> (try simp))
                · intro i hi
                  simp only [go_sem]
                  refine CondR_if (fun hlt => ?_) (fun hge => ?_)
                  · have hlt' : i < t.kids.length := by omega
                    have hel : elemD cT t.kids i = cT t.kids[i] := elemD_lt hlt'
                    have hn3 := hPn i hlt'
                    have hl3 := hPl i hi
                    have hns := nodesL_take_succ hlt'
                    have hnle := nodesL_take_le t.kids (i + 1)
                    have h1 := ih t.kids[i] (P i).1 (P i).2 (by have := nodes_kid (List.getElem_mem hlt'); omega) (by omega) (by omega) hl3.2
                    rw [show ((P i).1, (P i).2) = P i from rfl, ← hn3] at h1
                    have ilt : ((i : Int) < (t.kids.length : Int)) = True := eq_true (by omega)
                    generalize t.kids[i] = k at *
                    rw [show gT k = TV.agg (cT k) from rfl, cT_eq] at h1
                    generalize hPi : P i = a at *
                    generalize hPj : P (i + 1) = b at *
                    simp only [go_sem, hel, cT_eq, ilt]
                    (repeat (refine And.intro (by omega) ?_))
                    refine call_pure h1 rfl ?_
                    simp only [go_sem]
                    refine ⟨i + 1, hlt', (by show t.kids.length - (i + 1) < t.kids.length - i; omega), ?_⟩
                    (refine gstep_list rfl ?_ ?_ ?_ ?_ <;> (try simp only [go_sem, tail_one, hPj, wrap_i64 (n := (i : Int) + 1) (by omega) (by omega)]) <;> (try simp))
                  · obtain rfl : i = t.kids.length := by omega
                    rw [hPe]
                    simp only [go_sem]
                    exact fz_tup2 (.one .t) (.one .t)
            · simp only [go_sem]
              refine AnyS.one' 3 (by decide +kernel) rfl (by simp only [go_sem]) ?_
              simp only [go_sem]
              refine opA_app_nil (Nat.le_refl _) (sz := 3) (bytes := 48) (by simp only [go_sem, AppTy] <;> decide) cS_len (out.take i) (by simp only [go_sem] <;> rfl) (by simp only [go_sem] <;> rfl) (by first | exact hel7 _ | rfl) hne (by rw [List.length_take]; omega) (by simp only [go_sem] <;> rfl) (by decide) ?_
              (try simp only [go_sem])
              refine AnyS.one' 6 (by decide +kernel) rfl (by simp only [go_sem]) ?_
              simp only [go_sem]
              refine opA_app_vec (Nat.le_refl _) (sz := 3) (bytes := 48) (by simp only [go_sem, AppTy] <;> decide) cS_len (out.take i) [s] (b := 62) (by simp only [go_sem] <;> rfl) rfl (by simp only [go_sem] <;> rfl) (by simp only [go_sem] <;> rfl) rfl (by rw [List.length_take]; simp <;> omega) (by decide) ?_
              (try simp only [go_sem])
              refine AnyS.one' 10 (by decide +kernel) rfl (by simp only [go_sem]) ?_
              simp only [go_sem]
              refine opA_app_vec (Nat.le_refl _) (sz := 3) (bytes := 48) (by simp only [go_sem, AppTy] <;> decide) cS_len ((out.take i) ++ [s]) (out.drop i) (b := 62) (by simp only [go_sem] <;> rfl) rfl (by simp only [go_sem] <;> rfl) (by simp only [go_sem] <;> rfl) (by first | exact hel8 _ | exact hel9 _) (by simp <;> omega) (by decide) ?_
              (try simp only [go_sem])
              refine AnyS.one' 11 (by decide +kernel) rfl (by simp only [go_sem]) ?_
              simp only [go_sem]
              refine AnyS.done (by decide +kernel) ?_
              simp only [go_sem]
              refine pau (stL 90 [(3, .one (.ptr 3 0)), (8, .one (.t (eL cS p0.1))), (9, litB p0.2)] [(3, [.t (.lit (.int .i64 t.op)), .t (.lit (.bool t.num.1)), .t (eN t.num.2), .t (.lit (.string t.name)), .t (.lit (.int .i64 t.sort)), .t (eL cT t.kids)])]) ?_ ?_
              · refine GStep.trans (gstep_frz (b := 62) (sz := 3) (len := p0.1.length) (x := eL cS p0.1) (cs := cellsL cS p0.1) (by simp only [go_sem, hp0] <;> rfl) (treeOf_L cS_len)) ?_
                (refine gstep_list rfl ?_ ?_ ?_ ?_ <;> (try simp only [go_sem, tail_one, hp0]) <;> (try simp))
              · obtain ⟨P, hP⟩ : ∃ P : Nat → List Sg × Bool, P = fun i => (t.kids.take i).foldl (fun p k => sigsT k p) p0 := ⟨_, rfl⟩
                have hP0 : P 0 = p0 := by rw [hP]; rfl
                have hPl : ∀ i, i ≤ t.kids.length → (P i).1.length ≤ p0.1.length + nodesL (t.kids.take i) ∧ LS (P i) := fun i hi => by rw [hP]; exact foldS_len _ _ hp2 (fun k hk => by have := nodes_kid (List.mem_of_mem_take hk); omega)
                have hPn : ∀ i (h : i < t.kids.length), P (i + 1) = sigsT t.kids[i] (P i) := fun i h => by rw [hP]; exact fold_take_succ (f := fun p k => sigsT k p) (b := p0) h
                have hPe : R = P t.kids.length := by rw [hR, hP]; show _ = (t.kids.take t.kids.length).foldl _ p0; rw [List.take_length]
                simp only [go_sem]
                refine loop_inv (fun i : Nat => stL 90 [(3, .one (.ptr 3 0)), (8, .one (.t (eL cS (P i).1))), (9, litB (P i).2), (12, litI .i64 i)] [(3, [.t (.lit (.int .i64 t.op)), .t (.lit (.bool t.num.1)), .t (eN t.num.2), .t (.lit (.string t.name)), .t (.lit (.int .i64 t.sort)), .t (eL cT t.kids)])]) (fun i => i ≤ t.kids.length) (fun i => t.kids.length - i) 0 ?_ (Nat.zero_le _) ?_
                · (refine gstep_list rfl ?_ ?_ ?_ ?_ <;> (try simp only [go_sem, tail_one, hP0]) <;> (try simp))
                · intro i hi
                  simp only [go_sem]
                  refine CondR_if (fun hlt => ?_) (fun hge => ?_)
                  · have hlt' : i < t.kids.length := by omega
                    have hel : elemD cT t.kids i = cT t.kids[i] := elemD_lt hlt'
                    have hn3 := hPn i hlt'
                    have hl3 := hPl i hi
                    have hns := nodesL_take_succ hlt'
                    have hnle := nodesL_take_le t.kids (i + 1)
                    have h1 := ih t.kids[i] (P i).1 (P i).2 (by have := nodes_kid (List.getElem_mem hlt'); omega) (by omega) (by omega) hl3.2
                    rw [show ((P i).1, (P i).2) = P i from rfl, ← hn3] at h1
                    have ilt : ((i : Int) < (t.kids.length : Int)) = True := eq_true (by omega)
                    generalize t.kids[i] = k at *
                    rw [show gT k = TV.agg (cT k) from rfl, cT_eq] at h1
                    generalize hPi : P i = a at *
                    generalize hPj : P (i + 1) = b at *
                    simp only [go_sem, hel, cT_eq, ilt]
                    (repeat (refine And.intro (by omega) ?_))
                    refine call_pure h1 rfl ?_
                    simp only [go_sem]
                    refine ⟨i + 1, hlt', (by show t.kids.length - (i + 1) < t.kids.length - i; omega), ?_⟩
                    (refine gstep_list rfl ?_ ?_ ?_ ?_ <;> (try simp only [go_sem, tail_one, hPj, wrap_i64 (n := (i : Int) + 1) (by omega) (by omega)]) <;> (try simp))
                  · obtain rfl : i = t.kids.length := by omega
                    rw [hPe]
                    simp only [go_sem]
                    exact fz_tup2 (.one .t) (.one .t)
  · have g4 := decide_eq_false c4
    have hp0 : p0 = (out, fine) := by rw [hp0]; exact if_neg c4
    simp only [go_sem, cT_eq, g4]
    refine pau (stL 90 [(3, .one (.ptr 3 0)), (8, .one (.t (eL cS p0.1))), (9, litB p0.2)] [(3, [.t (.lit (.int .i64 t.op)), .t (.lit (.bool t.num.1)), .t (eN t.num.2), .t (.lit (.string t.name)), .t (.lit (.int .i64 t.sort)), .t (eL cT t.kids)])]) ?_ ?_
    · (refine gstep_list rfl ?_ ?_ ?_ ?_ <;> (try simp only [go_sem, tail_one, hp0]) <;> (try simp))
    · obtain ⟨P, hP⟩ : ∃ P : Nat → List Sg × Bool, P = fun i => (t.kids.take i).foldl (fun p k => sigsT k p) p0 := ⟨_, rfl⟩
      have hP0 : P 0 = p0 := by rw [hP]; rfl
      have hPl : ∀ i, i ≤ t.kids.length → (P i).1.length ≤ p0.1.length + nodesL (t.kids.take i) ∧ LS (P i) := fun i hi => by rw [hP]; exact foldS_len _ _ hp2 (fun k hk => by have := nodes_kid (List.mem_of_mem_take hk); omega)
      have hPn : ∀ i (h : i < t.kids.length), P (i + 1) = sigsT t.kids[i] (P i) := fun i h => by rw [hP]; exact fold_take_succ (f := fun p k => sigsT k p) (b := p0) h
      have hPe : R = P t.kids.length := by rw [hR, hP]; show _ = (t.kids.take t.kids.length).foldl _ p0; rw [List.take_length]
      simp only [go_sem]
      refine loop_inv (fun i : Nat => stL 90 [(3, .one (.ptr 3 0)), (8, .one (.t (eL cS (P i).1))), (9, litB (P i).2), (12, litI .i64 i)] [(3, [.t (.lit (.int .i64 t.op)), .t (.lit (.bool t.num.1)), .t (eN t.num.2), .t (.lit (.string t.name)), .t (.lit (.int .i64 t.sort)), .t (eL cT t.kids)])]) (fun i => i ≤ t.kids.length) (fun i => t.kids.length - i) 0 ?_ (Nat.zero_le _) ?_
      · (refine gstep_list rfl ?_ ?_ ?_ ?_ <;> (try simp only [go_sem, tail_one, hP0]) <;> (try simp))
      · intro i hi
        simp only [go_sem]
        refine CondR_if (fun hlt => ?_) (fun hge => ?_)
        · have hlt' : i < t.kids.length := by omega
          have hel : elemD cT t.kids i = cT t.kids[i] := elemD_lt hlt'
          have hn3 := hPn i hlt'
          have hl3 := hPl i hi
          have hns := nodesL_take_succ hlt'
          have hnle := nodesL_take_le t.kids (i + 1)
          have h1 := ih t.kids[i] (P i).1 (P i).2 (by have := nodes_kid (List.getElem_mem hlt'); omega) (by omega) (by omega) hl3.2
          rw [show ((P i).1, (P i).2) = P i from rfl, ← hn3] at h1
          have ilt : ((i : Int) < (t.kids.length : Int)) = True := eq_true (by omega)
          generalize t.kids[i] = k at *
          rw [show gT k = TV.agg (cT k) from rfl, cT_eq] at h1
          generalize hPi : P i = a at *
          generalize hPj : P (i + 1) = b at *
          simp only [go_sem, hel, cT_eq, ilt]
          (repeat (refine And.intro (by omega) ?_))
          refine call_pure h1 rfl ?_
          simp only [go_sem]
          refine ⟨i + 1, hlt', (by show t.kids.length - (i + 1) < t.kids.length - i; omega), ?_⟩
          (refine gstep_list rfl ?_ ?_ ?_ ?_ <;> (try simp only [go_sem, tail_one, hPj, wrap_i64 (n := (i : Int) + 1) (by omega) (by omega)]) <;> (try simp))
        · obtain rfl : i = t.kids.length := by omega
          rw [hPe]
          simp only [go_sem]
          exact fz_tup2 (.one .t) (.one .t)
end Go.Proofs.YtgnfgaioeldagaaGreat
