/- At every input the call answers true and leaves its arguments as they were; no conditions. -/
import Derived.Test.YtgnfgaioeldagaaGreatVa
set_option linter.unusedSimpArgs false
set_option linter.unusedVariables false
namespace Go.Proofs.YtgnfgaioeldagaaGreat
open Go Go.Abs
set_option maxHeartbeats 8000000
theorem bget (s : ByteArray) (i : Nat) (h : i < s.size) : s[i]! = s.toList[i]'(by rw [ByteArray.toList_eq]; exact h) := by
  have e : s.toList = s.data.toList := ByteArray.toList_eq s
  rw [getElem!_pos s i h]
  simp only [e]
  rfl
theorem blen (s : ByteArray) : s.toList.length = s.size := by rw [ByteArray.toList_eq]; rfl
theorem lead (s : ByteArray) (p : UInt8 → Bool) : ∃ k, k ≤ s.size ∧ (∀ i, i < k → p s[i]! = true) ∧ (k < s.size → p s[k]! = false) ∧ (decide (k = s.size) = s.toList.all p) := by
  have key : ∀ n, n ≤ s.size → (∀ i, i < n → p s[i]! = true) → ∃ k, k ≤ s.size ∧ (∀ i, i < k → p s[i]! = true) ∧ (k < s.size → p s[k]! = false) := by
    intro n
    induction hm : s.size - n generalizing n with
    | zero => intro h1 h2; exact ⟨n, h1, h2, fun h => by omega⟩
    | succ m ih =>
      intro h1 h2
      cases c : p s[n]! with
      | false => exact ⟨n, h1, h2, fun _ => c⟩
      | true =>
        refine ih (n + 1) (by omega) (by omega) fun i hi => ?_
        by_cases e : i = n
        · rw [e]; exact c
        · exact h2 i (by omega)
  obtain ⟨k, h1, h2, h3⟩ := key 0 (Nat.zero_le _) (fun i hi => by omega)
  refine ⟨k, h1, h2, h3, ?_⟩
  rw [Bool.eq_iff_iff, decide_eq_true_eq, List.all_eq_true]
  constructor
  · intro e c hc
    obtain ⟨i, hi, rfl⟩ := List.getElem_of_mem hc
    have hi2 : i < s.size := by rw [← blen]; exact hi
    rw [← bget s i hi2]; exact h2 i (by omega)
  · intro h
    by_cases hk : k < s.size
    · have := h3 hk
      rw [bget s k hk, h _ (List.getElem_mem _)] at this; cases this
    · omega
theorem extract_eq (s : ByteArray) {k : Nat} (hk : k ≤ s.size) : ((s.extract 0 k).toList == s.toList) = decide (k = s.size) := by
  rw [Bool.eq_iff_iff, beq_iff_eq, decide_eq_true_eq]
  constructor
  · intro h
    have := congrArg List.length h
    rw [blen, blen, ByteArray.size_extract] at this
    omega
  · intro h
    subst h
    congr 1
    exact ByteArray.extract_zero_size
theorem size0 (s : ByteArray) : (s.toList == ([] : List UInt8)) = decide (s.size = 0) := by
  rw [Bool.eq_iff_iff, beq_iff_eq, decide_eq_true_eq, ← blen]
  exact List.length_eq_zero_iff.symm
set_option maxRecDepth 100000 in
theorem l_Symbol (hI : IdxSpec) (s : ByteArray) (hs : s.size < 9223372036854775807) : PCall Tryz.prog 80 [tS s] (tB (symB s)) := by
  refine pcall_of_wpA mixed Tryz.call80 Tryz.func80 rfl Tryz.ntmps80 Tryz.results80 (by simp) (by decide) ?_
  have h0 := size0 s
  by_cases c0 : s.size = 0
  · have e : symB s = false := by unfold symB; simp [c0]
    rw [e]
    rw [decide_eq_true c0] at h0
    simp only [go_sem, str0, h0]
  · rw [decide_eq_false c0] at h0
    by_cases c1 : s.size ≤ 20
    · have f1 : decide ((s.size : Int) ≤ 20) = true := decide_eq_true (by omega)
      have hd := l_digit s[0]!
      obtain ⟨k, k1, k2, k3, k4⟩ := lead s signB
      have hr := l_run hI s hs k k1 k2 k3
      have hx := extract_eq s k1
      have e : symB s = (!(digitB s[0]!) && s.toList.all signB) := by
        unfold symB
        rw [decide_eq_true (show 1 ≤ s.size by omega), decide_eq_true c1, Bool.true_and, Bool.true_and, Bool.and_comm]
      rw [e, ← k4]
      rw [← k4] at *
      generalize decide (k = s.size) = q at *
      generalize s.extract 0 k = x at *
      have f2 : ((0 : Int) < (s.size : Int)) = True := eq_true (by omega)
      cases c : digitB s[0]! with
      | true =>
        rw [c] at hd
        simp only [go_sem, str0, h0, f1, strOk, strV, f2]
        (repeat (refine And.intro (by omega) ?_))
        refine call_pure hd rfl ?_
        simp only [go_sem]
      | false =>
        rw [c] at hd
        simp only [go_sem, str0, h0, f1, strOk, strV, f2]
        (repeat (refine And.intro (by omega) ?_))
        refine call_pure hd rfl ?_
        simp only [go_sem]
        refine call_clo [] rfl hr trivial (by simp only [go_sem] <;> rfl) ?_
        simp only [go_sem, hx]
    · have f1 : decide ((s.size : Int) ≤ 20) = false := decide_eq_false (by omega)
      have e : symB s = false := by unfold symB; simp [c1]
      rw [e]
      simp only [go_sem, str0, h0, f1]
set_option maxRecDepth 100000 in
theorem t_IsSig (hI : IdxSpec) (s : Sg) (hs : s.1.size < 9223372036854775807) (hl : s.2.1.length < 1000000000) : PCall Tryz.prog 41 [gSg s] (tB (sigB s)) := by
  refine pcall_of_wpA mixed Tryz.call41 Tryz.func41 rfl Tryz.ntmps41 Tryz.results41 (by simp) (by decide) ?_
  obtain ⟨nm, ar, rt⟩ := s
  have hl : ar.length < 1000000000 := hl
  have hs : nm.size < 9223372036854775807 := hs
  simp only [go_sem]
  refine loop_inv (fun i : Nat => stL 30 [(1, .one (.ptr 1 0)), (6, .one (.t (eL cInt ar))), (7, litI .i64 ar.length), (8, litI .i64 i)] [(1, [.t (.lit (.string nm)), .t (eL cInt ar), .t (.lit (.int .i64 rt))])])
    (fun i => i ≤ ar.length ∧ (ar.take i).all sortB = true) (fun i => ar.length - i) 0 ?_ ⟨Nat.zero_le _, by simp⟩ ?_
  · (refine gstep_list rfl ?_ ?_ ?_ ?_ <;> (try simp only [go_sem, tail_one]) <;> (try simp))
  · rintro i ⟨hi, hinv⟩
    simp only [go_sem]
    refine CondR_if (fun hlt => ?_) (fun hge => ?_)
    · have hlt' : i < ar.length := by omega
      have hel : elemD cInt ar i = cInt ar[i] := elemD_lt hlt'
      have hsx := all_take_succ (p := sortB) hlt'
      have hno := all_no (p := sortB) hlt'
      generalize ar[i] = n at *
      have h := t_IsSort n
      simp only [go_sem, hel]
      (repeat (refine And.intro (by omega) ?_))
      refine call_pure h rfl ?_
      cases c : sortB n with
      | false =>
        have e : sigB (nm, ar, rt) = false := by
          show (ar.all sortB && symB nm && decide (ar.length ≤ 3) && sortB rt) = false
          rw [hno c]; simp
        rw [e]
        simp only [go_sem]
      | true =>
        simp only [go_sem]
        refine ⟨i + 1, ⟨hlt', by rw [hsx, hinv, c]; rfl⟩, (by show ar.length - (i + 1) < ar.length - i; omega), ?_⟩
        (refine gstep_list rfl ?_ ?_ ?_ ?_ <;> (try simp only [go_sem, tail_one, wrap_i64 (n := (i : Int) + 1) (by omega) (by omega)]) <;> (try simp))
    · obtain rfl : i = ar.length := by omega
      rw [List.take_length] at hinv
      have h1 := l_Symbol hI nm hs
      have h2 := t_IsSort rt
      have e : sigB (nm, ar, rt) = (symB nm && decide ((ar.length : Int) ≤ 3) && sortB rt) := by
        show (ar.all sortB && symB nm && decide (ar.length ≤ 3) && sortB rt) = _
        rw [hinv, Bool.true_and]
        congr 2
        exact decide_eq_decide.2 (by omega)
      rw [e]
      generalize symB nm = q at *
      cases q with
      | false =>
        simp only [go_sem]
        refine call_pure h1 rfl ?_
        simp only [go_sem]
      | true =>
        cases c : decide ((ar.length : Int) ≤ 3) with
        | false =>
          simp only [go_sem, c]
          refine call_pure h1 rfl ?_
          simp only [go_sem, c]
        | true =>
          simp only [go_sem, c]
          refine call_pure h1 rfl ?_
          simp only [go_sem, c]
          refine call_pure h2 rfl ?_
          simp only [go_sem]
end Go.Proofs.YtgnfgaioeldagaaGreat
namespace Go.Proofs.YtgnfgaioeldagaaGreat
open Go Go.Abs
set_option maxHeartbeats 8000000
mutual
def FT : Tm → Prop
  | .mk _ n s _ ks => n.2.length ≤ 4 ∧ s.size ≤ 30 ∧ FTs ks
def FTs : List Tm → Prop
  | [] => True
  | t :: l => FT t ∧ FTs l
end
theorem FTs_all : ∀ l : List Tm, FTs l ↔ ∀ k ∈ l, FT k
  | [] => by rw [FTs]; simp
  | t :: l => by rw [FTs, FTs_all l, List.forall_mem_cons]
theorem FT_eq (t : Tm) : FT t ↔ t.num.2.length ≤ 4 ∧ t.name.size ≤ 30 ∧ ∀ k ∈ t.kids, FT k := by
  cases t with | mk o n s r ks => rw [FT, FTs_all]; rfl
theorem FT.smallK {t : Tm} (h : FT t) : smallK t.kids := fun k hk => by
  have h1 := ((FT_eq t).1 h).2.2 k hk
  refine ⟨by have := ((FT_eq k).1 h1).1; omega, fun k2 hk2 => ?_⟩
  have := ((FT_eq k2).1 (((FT_eq k).1 h1).2.2 k2 hk2)).1; omega
theorem kids_len (t : Tm) : t.kids.length < t.nodes := by rw [nodes_eq]; have := nodesL_len t.kids; omega
theorem opA_next {α β : Type} {l : List α} {f : α → β} {i : Nat} (h : i < l.length) : (l.take (i + 1)).map f = (l.take i).map f ++ [f l[i]] := by
  rw [List.take_succ_eq_append_getElem h, List.map_append]; rfl
set_option maxRecDepth 100000 in
theorem t_Sig (t : Tm) (hn : t.nodes < 1000000) : PCall Tryz.prog 90 [gT t] (gSg (sgT t)) := by
  refine pcall_of_wpA mixed Tryz.call90 Tryz.func90 rfl Tryz.ntmps90 Tryz.results90 (by simp) (by decide) ?_
  have hkl := kids_len t
  simp only [go_sem, cT_eq]
  refine loop_inv (fun i : Nat => stL 27 [(2, .one (.ptr 2 0)), (3, .one (.ptr 3 0)), (12, .one (.t (eL cT t.kids))), (13, litI .i64 t.kids.length), (14, litI .i64 i)]
      (accE 1000 cInt ((t.kids.take i).map Tm.sort) ++ [(2, [.t (.lit (.string { data := #[] })), .t (.seq (some true) []), .t (.lit (.int .i64 0))]), (3, [.t (.lit (.string t.name)), accC 1000 1 ((t.kids.take i).map Tm.sort), .t (.lit (.int .i64 t.sort))])]))
      (fun i => i ≤ t.kids.length) (fun i => t.kids.length - i) 0 ?_ (Nat.zero_le _) ?_
  · rw [List.take_zero, List.map_nil]
    (refine gstep_list rfl ?_ ?_ ?_ ?_ <;> (try simp only [go_sem, tail_one]) <;> (try simp))
  · intro i hi
    simp only [go_sem]
    refine CondR_if (fun hlt => ?_) (fun hge => ?_)
    · have hlt' : i < t.kids.length := by omega
      have hel : elemD cT t.kids i = cT t.kids[i] := elemD_lt hlt'
      have hnx := opA_next (f := Tm.sort) hlt'
      have hal : ((t.kids.take i).map Tm.sort).length = i := by rw [List.length_map, List.length_take]; omega
      generalize t.kids[i] = k at *
      generalize (t.kids.take i).map Tm.sort = acc at *
      simp only [go_sem, hel, cT_eq]
      (repeat (refine And.intro (by omega) ?_))
      refine opA_app_acc (sz := 1) (bytes := 8) (by simp only [go_sem, AppTy] <;> decide) cInt_len acc [k.sort] (b := 1000) (by simp only [go_sem] <;> rfl) (by simp only [go_sem] <;> rfl) (by simp only [go_sem] <;> rfl) rfl (by simp) (by simp only [List.length_cons, List.length_nil] at *; omega) (by decide) ?_
      simp only [go_sem]
      refine ⟨i + 1, hlt', (by show t.kids.length - (i + 1) < t.kids.length - i; omega), ?_⟩
      (refine gstep_list rfl ?_ ?_ ?_ ?_ <;> (try simp only [go_sem, tail_one, hnx, wrap_i64 (n := (i : Int) + 1) (by omega) (by omega)]) <;> (try simp))
    · obtain rfl : i = t.kids.length := by omega
      rw [List.take_length]
      simp only [go_sem]
      refine fz_Cs (.cons .t (.cons (fz_acc cInt_len ?_) (.cons .t .nil)))
      cases h : t.kids.map Tm.sort with
      | nil => exact .inl rfl
      | cons z zs => right; rfl
end Go.Proofs.YtgnfgaioeldagaaGreat
namespace Go.Proofs.YtgnfgaioeldagaaGreat
open Go Go.Abs
set_option maxHeartbeats 8000000
theorem empty0 (l : List Tm) : decide ((l.length : Int) = 0) = l.isEmpty := by
  cases l with
  | nil => rfl
  | cons a l =>
    have : ¬ (((a :: l).length : Int) = 0) := by rw [List.length_cons]; omega
    rw [decide_eq_false this]; rfl
theorem name0 (s : ByteArray) : (s.toList == ([] : List UInt8)) = decide (s = ByteArray.empty) := by
  have e0 : ([] : List UInt8) = ByteArray.empty.toList := by rw [ByteArray.toList_eq]; rfl
  rw [e0, bytes_eq]
theorem zz0 (p : ZI) : (!p.1 && decide ((p.2.length : Int) = 0)) = decide (p = zzI) := by
  obtain ⟨a, b⟩ := p
  unfold zzI
  cases a <;> cases b <;> simp <;> omega
theorem kidsB_pos {op : Int} {n : Nat} (h : kidsB op n = true) : 1 ≤ n := by
  unfold kidsB at h
  repeat' split at h
  all_goals have := of_decide_eq_true h; omega
set_option maxRecDepth 100000 in
theorem t_node (hI : IdxSpec) (t : Tm) (hF : FT t) (hn : t.nodes < 1000000) : PCall Tryz.prog 142 [gT t] (tB (nodeB t)) := by
  refine pcall_of_wpA mixed Tryz.call142 Tryz.func142 rfl Tryz.ntmps142 Tryz.results142 (by simp) (by decide) ?_
  have hkl := kids_len t
  obtain ⟨f1, f2, _⟩ := (FT_eq t).1 hF
  by_cases c1 : t.op = 1
  · have h := w_Is t.num.1 t.num.2 (by omega)
    have e : nodeB t = (decide (IsZ t.num) && decide (t.name = ByteArray.empty) && decide (t.sort = 2) && t.kids.isEmpty) := if_pos c1
    rw [e]
    have h : PCall Tryz.prog 82 [gI t.num.1 t.num.2] (tB (decide (IsZ t.num))) := h
    have n0 := name0 t.name
    have k0 := empty0 t.kids
    have c1 := decide_eq_true c1
    generalize decide (IsZ t.num) = q1 at *
    generalize decide (t.name = ByteArray.empty) = q2 at *
    generalize t.kids.isEmpty = q4 at *
    simp only [go_sem, cT_eq, c1]
    cases q1 with
    | false =>
      refine call_pure h rfl ?_
      simp only [go_sem]
    | true =>
      cases q2 with
      | false =>
        simp only [go_sem, str0, n0]
        refine call_pure h rfl ?_
        simp only [go_sem, str0, n0]
      | true =>
        cases c3 : decide (t.sort = 2) with
        | false =>
          refine call_pure h rfl ?_
          simp only [go_sem, str0, n0, c3]
        | true =>
          refine call_pure h rfl ?_
          simp only [go_sem, str0, n0, c3, k0]
  · have g1 := decide_eq_false c1
    by_cases c2 : t.op = 2 ∨ t.op = 3
    · have h := t_plain t
      have e : nodeB t = (plainB t && decide (t.sort = 1) && t.kids.isEmpty) := by unfold nodeB; rw [if_neg c1, if_pos c2]
      rw [e]
      rw [show gT t = TV.agg (cT t) from rfl, cT_eq] at h
      have k0 := empty0 t.kids
      generalize plainB t = q1 at *
      generalize t.kids.isEmpty = q4 at *
      have key : decide (t.op = 2) = true ∨ (decide (t.op = 2) = false ∧ decide (t.op = 3) = true) := by
        rcases c2 with c | c
        · exact .inl (decide_eq_true c)
        · exact .inr ⟨decide_eq_false (by omega), decide_eq_true c⟩
      rcases key with g2 | ⟨g2, g3⟩
      · simp only [go_sem, cT_eq, g1, g2]
        refine call_pure h rfl ?_
        cases q1 with
        | false => simp only [go_sem]
        | true =>
          cases c3 : decide (t.sort = 1) with
          | false => simp only [go_sem, c3]
          | true => simp only [go_sem, c3, k0]
      · simp only [go_sem, cT_eq, g1, g2, g3]
        refine call_pure h rfl ?_
        cases q1 with
        | false => simp only [go_sem]
        | true =>
          cases c3 : decide (t.sort = 1) with
          | false => simp only [go_sem, c3]
          | true => simp only [go_sem, c3, k0]
    · have g2 : decide (t.op = 2) = false := decide_eq_false (by omega)
      have g3 : decide (t.op = 3) = false := decide_eq_false (by omega)
      by_cases c4 : t.op = 4
      · have g4 := decide_eq_true c4
        have e : nodeB t = (!t.num.1 && decide ((t.num.2.length : Int) = 0) && sigB (sgT t)) := by
          unfold nodeB; rw [if_neg c1, if_neg c2, if_pos c4, zz0]
        rw [e]
        have h1 := t_Sig t hn
        have h2 := t_IsSig hI (sgT t) (by show t.name.size < _; omega) (by show (t.kids.map Tm.sort).length < _; rw [List.length_map]; omega)
        rw [show gT t = TV.agg (cT t) from rfl, cT_eq] at h1
        generalize sgT t = sg at *
        generalize sigB sg = q3 at *
        cases c5 : t.num.1 with
        | true => simp only [go_sem, cT_eq, g1, g2, g3, g4, c5]
        | false =>
          rw [c5] at h1
          cases c6 : decide ((t.num.2.length : Int) = 0) with
          | false => simp only [go_sem, cT_eq, g1, g2, g3, g4, c5, c6]
          | true =>
            simp only [go_sem, cT_eq, g1, g2, g3, g4, c5, c6]
            refine call_pure h1 rfl ?_
            simp only [go_sem, c6]
            refine call_pure h2 rfl ?_
            simp only [go_sem]
      · have g4 := decide_eq_false c4
        have e : nodeB t = (madeB t.op && plainB t && kidsB t.op t.kids.length && decide (wrongE t.op t.kids = 0) && decide (t.sort = sortR t.op t.kids)) := by
          unfold nodeB; rw [if_neg c1, if_neg c2, if_neg c4]
        rw [e]
        have h1 := t_made t.op
        have h2 := t_plain t
        have h3 := t_kids t.op t.kids.length
        rw [show gT t = TV.agg (cT t) from rfl, cT_eq] at h2
        simp only [go_sem, cT_eq, g1, g2, g3, g4]
        cases m1 : madeB t.op with
        | false =>
          rw [m1] at h1
          refine regA_by 0 rfl ?_
          simp only [go_sem, cT_eq]
          refine call_pure h1 rfl ?_
          simp only [go_sem]
        | true =>
          rw [m1] at h1
          cases m2 : plainB t with
          | false =>
            rw [m2] at h2
            refine regA_by 0 rfl ?_
            simp only [go_sem, cT_eq]
            refine call_pure h1 rfl ?_
            simp only [go_sem, cT_eq]
            refine call_pure h2 rfl ?_
            simp only [go_sem]
          | true =>
            rw [m2] at h2
            cases m3 : kidsB t.op t.kids.length with
            | false =>
              rw [m3] at h3
              refine regA_by 0 rfl ?_
              simp only [go_sem, cT_eq]
              refine call_pure h1 rfl ?_
              simp only [go_sem, cT_eq]
              refine call_pure h2 rfl ?_
              simp only [go_sem]
              refine call_pure h3 rfl ?_
              simp only [go_sem]
            | true =>
              have h4 := t_wrong t.op t.kids (by omega) hF.smallK m3
              have mb : 5 ≤ t.op ∧ t.op ≤ 22 := by unfold madeB at m1; simpa using m1
              have h5 := t_sort t.op t.kids mb.1 mb.2 m3
              rw [m3] at h3
              generalize sortR t.op t.kids = sr at *
              generalize wrongE t.op t.kids = we at *
              cases m4 : decide (we = 0) with
              | false =>
                refine regA_by 0 rfl ?_
                simp only [go_sem, cT_eq]
                refine call_pure h1 rfl ?_
                simp only [go_sem, cT_eq]
                refine call_pure h2 rfl ?_
                simp only [go_sem]
                refine call_pure h3 rfl ?_
                simp only [go_sem]
                refine call_pure h4 rfl ?_
                simp only [go_sem, m4]
              | true =>
                refine regA_by 0 rfl ?_
                simp only [go_sem, cT_eq]
                refine call_pure h1 rfl ?_
                simp only [go_sem, cT_eq]
                refine call_pure h2 rfl ?_
                simp only [go_sem]
                refine call_pure h3 rfl ?_
                simp only [go_sem]
                refine call_pure h4 rfl ?_
                simp only [go_sem, m4]
                refine call_pure h5 rfl ?_
                simp only [go_sem]
end Go.Proofs.YtgnfgaioeldagaaGreat
namespace Go.Proofs.YtgnfgaioeldagaaGreat
open Go Go.Abs
set_option maxHeartbeats 8000000
theorem okT_all (t : Tm) : okT t = (t.kids.all okT && nodeB t) := by rw [okT_eq, okTs_all]
theorem nodesL_cons (t : Tm) (l : List Tm) : nodesL (t :: l) = t.nodes + nodesL l := by rw [nodesL]
theorem nodesL_nil : nodesL [] = 0 := by rw [nodesL]
set_option maxRecDepth 100000 in
theorem t_nodes (hI : IdxSpec) : ∀ (n : Nat) (l : List Tm), nodesL l ≤ n → n < 1000000 → (∀ t ∈ l, FT t) → PCall Tryz.prog 120 [tLT l] (tB (l.all okT)) := by
  intro n
  induction n with
  | zero =>
    intro l hl _ _
    obtain rfl : l = [] := by
      have := nodesL_len l
      exact List.length_eq_zero_iff.1 (by omega)
    refine pcall_of_wpA mixed Tryz.call120 Tryz.func120 rfl Tryz.ntmps120 Tryz.results120 (by simp) (by decide) ?_
    simp only [go_sem]
    refine loop_inv (fun i : Nat => stL 21 [(5, .one (.t (eL cT []))), (6, litI .i64 0), (7, litI .i64 i)] []) (fun i => i ≤ 0) (fun i => 0 - i) 0 ?_ (Nat.zero_le _) ?_
    · (refine gstep_list rfl ?_ ?_ ?_ ?_ <;> (try simp only [go_sem, tail_one]) <;> (try simp))
    · intro i hi
      obtain rfl : i = 0 := by omega
      simp only [go_sem]
  | succ n ih =>
    intro l hl hn hF
    refine pcall_of_wpA mixed Tryz.call120 Tryz.func120 rfl Tryz.ntmps120 Tryz.results120 (by simp) (by decide) ?_
    have hll := nodesL_len l
    simp only [go_sem]
    refine loop_inv (fun i : Nat => stL 21 [(5, .one (.t (eL cT l))), (6, litI .i64 l.length), (7, litI .i64 i)] []) (fun i => i ≤ l.length ∧ (l.take i).all okT = true) (fun i => l.length - i) 0 ?_ ⟨Nat.zero_le _, by simp⟩ ?_
    · (refine gstep_list rfl ?_ ?_ ?_ ?_ <;> (try simp only [go_sem, tail_one]) <;> (try simp))
    · rintro i ⟨hi, hinv⟩
      simp only [go_sem]
      refine CondR_if (fun hlt => ?_) (fun hge => ?_)
      · have hlt' : i < l.length := by omega
        have hel : elemD cT l i = cT l[i] := elemD_lt hlt'
        have hs := all_take_succ (p := okT) hlt'
        have hno := all_no (p := okT) hlt'
        have hFt := hF _ (List.getElem_mem hlt')
        have hm := nodesL_mem (List.getElem_mem hlt')
        generalize l[i] = t at *
        have h1 := ih t.kids (by have := nodes_eq t; omega) (by omega) ((FT_eq t).1 hFt).2.2
        have h2 := t_node hI t hFt (by omega)
        rw [show gT t = TV.agg (cT t) from rfl, cT_eq] at h2
        have e := okT_all t
        simp only [go_sem, hel, cT_eq]
        (repeat (refine And.intro (by omega) ?_))
        cases c1 : t.kids.all okT with
        | false =>
          rw [c1] at h1
          refine call_pure h1 rfl ?_
          rw [show l.all okT = false from hno (by rw [e, c1]; rfl)]
          simp only [go_sem]
        | true =>
          rw [c1] at h1
          refine call_pure h1 rfl ?_
          simp only [go_sem, hel, cT_eq]
          cases c2 : nodeB t with
          | false =>
            rw [c2] at h2
            refine call_pure h2 rfl ?_
            rw [show l.all okT = false from hno (by rw [e, c1, c2]; rfl)]
            simp only [go_sem]
          | true =>
            rw [c2] at h2
            refine call_pure h2 rfl ?_
            simp only [go_sem]
            refine ⟨i + 1, ⟨hlt', by rw [hs, hinv, e, c1, c2]; rfl⟩, (by show l.length - (i + 1) < l.length - i; omega), ?_⟩
            (refine gstep_list rfl ?_ ?_ ?_ ?_ <;> (try simp only [go_sem, tail_one, wrap_i64 (n := (i : Int) + 1) (by omega) (by omega)]) <;> (try simp))
      · obtain rfl : i = l.length := by omega
        rw [List.take_length] at hinv
        rw [hinv]
        simp only [go_sem]
mutual
def KT : Tm → Prop
  | .mk _ n s _ ks => n.2.length ≤ 9223372036854775807 ∧ s.size ≤ 9223372036854775807 ∧ ks.length ≤ 9223372036854775807 ∧ KTs ks
def KTs : List Tm → Prop
  | [] => True
  | t :: l => KT t ∧ KTs l
end
theorem KTs_all : ∀ l : List Tm, KTs l ↔ ∀ k ∈ l, KT k
  | [] => by rw [KTs]; simp
  | t :: l => by rw [KTs, KTs_all l, List.forall_mem_cons]
theorem KT_eq (t : Tm) : KT t ↔ t.num.2.length ≤ 9223372036854775807 ∧ t.name.size ≤ 9223372036854775807 ∧ t.kids.length ≤ 9223372036854775807 ∧ ∀ k ∈ t.kids, KT k := by
  cases t with | mk o n s r ks => rw [KT, KTs_all]; rfl
set_option maxRecDepth 100000 in
theorem t_counted : ∀ (most : Nat) (l : List Tm), most < 1000000 → l.length ≤ 9223372036854775807 → (∀ t ∈ l, KT t) → PCall Tryz.prog 141 [tI .i64 most, tLT l] (tI .i64 (min most (nodesL l) : Nat)) := by
  intro most
  induction most using Nat.strongRecOn with
  | ind most ih =>
  intro l hm hl hK
  refine pcall_of_wpA mixed Tryz.call141 Tryz.func141 rfl Tryz.ntmps141 Tryz.results141 (by simp) (by decide) ?_
  obtain ⟨R, hR⟩ : ∃ R : Nat, R = min most (nodesL l) := ⟨_, rfl⟩
  rw [← hR]
  simp only [go_sem]
  refine loop_inv (fun i : Nat => stL 32 [(0, litI .i64 most), (5, litI .i64 (min most (nodesL (l.take i)) : Nat)), (8, .one (.t (eL cT l))), (9, litI .i64 l.length), (10, litI .i64 i)] []) (fun i => i ≤ l.length) (fun i => l.length - i) 0 ?_ (Nat.zero_le _) ?_
  · rw [List.take_zero, nodesL_nil, Nat.min_zero]
    (refine gstep_list rfl ?_ ?_ ?_ ?_ <;> (try simp only [go_sem, tail_one]) <;> (try simp))
  · intro i hi
    obtain ⟨c, hc⟩ : ∃ c : Nat, c = min most (nodesL (l.take i)) := ⟨_, rfl⟩
    rw [← hc]
    simp only [go_sem]
    refine CondR_if (fun hlt => ?_) (fun hge => ?_)
    · have hlt' : i < l.length := by omega
      have hel : elemD cT l i = cT l[i] := elemD_lt hlt'
      have hs := nodesL_take_succ hlt'
      have hle : nodesL (l.take (i + 1)) ≤ nodesL l := by
        have e : nodesL l = nodesL (l.take (i + 1)) + nodesL (l.drop (i + 1)) := by
          have app : ∀ a b : List Tm, nodesL (a ++ b) = nodesL a + nodesL b := fun a b => by
            induction a with
            | nil => rw [List.nil_append, nodesL_nil, Nat.zero_add]
            | cons x a ih => rw [List.cons_append, nodesL_cons, nodesL_cons, ih, Nat.add_assoc]
          rw [← app, List.take_append_drop]
        omega
      have hKt := hK _ (List.getElem_mem hlt')
      obtain ⟨_, _, k3, k4⟩ := (KT_eq _).1 hKt
      have hnt := nodes_eq l[i]
      generalize hnx : nodesL (l.take (i + 1)) = nx at *
      generalize l[i] = t at *
      simp only [go_sem, hel, cT_eq]
      (repeat (refine And.intro (by omega) ?_))
      refine CondR_if (fun hge => ?_) (fun hlm => ?_)
      · have : R = most := by omega
        simp only [go_sem]
        omega
      · have h1 := ih (most - c - 1) (by omega) t.kids (by omega) k3 k4
        generalize hq : min (most - c - 1) (nodesL t.kids) = q at *
        have e1 : IntKind.i64.wrap ((c : Int) + 1) = (c : Int) + 1 := wrap_i64 (by omega) (by omega)
        have e2 : IntKind.i64.wrap ((most : Int) - (c : Int)) = (most : Int) - c := wrap_i64 (by omega) (by omega)
        have e3 : IntKind.i64.wrap ((most : Int) - (c : Int) - 1) = ((most - c - 1 : Nat) : Int) := by rw [wrap_i64 (by omega) (by omega)]; omega
        have e4 : IntKind.i64.wrap ((c : Int) + 1 + (q : Int)) = (c : Int) + 1 + q := wrap_i64 (by omega) (by omega)
        simp only [go_sem, hel, cT_eq, e1, e2, e3]
        refine call_pure h1 rfl ?_
        simp only [go_sem, e4]
        refine ⟨i + 1, hlt', (by show l.length - (i + 1) < l.length - i; omega), ?_⟩
        have e5 : (if (c : Int) + 1 + (q : Int) < (most : Int) then (c : Int) + 1 + (q : Int) else (most : Int)) = ((min most nx : Nat) : Int) := by
          split <;> omega
        skip
        (refine gstep_list rfl ?_ ?_ ?_ ?_ <;> (try simp only [go_sem, tail_one, hnx, e5, wrap_i64 (n := (i : Int) + 1) (by omega) (by omega)]) <;> (try simp))
    · obtain rfl : i = l.length := by omega
      rw [List.take_length, ← hR] at hc
      simp only [go_sem, hc]
set_option maxRecDepth 100000 in
theorem t_Count (t : Tm) (hK : KT t) : PCall Tryz.prog 119 [gT t] (tI .i64 (min 401 t.nodes : Nat)) := by
  refine pcall_of_wpA mixed Tryz.call119 Tryz.func119 rfl Tryz.ntmps119 Tryz.results119 (by simp) (by decide) ?_
  have h := (t_counted 401 [t] (by decide) (by simp) (fun k hk => by obtain rfl := List.mem_singleton.1 hk; exact hK)).tw (tvs' := [tI .i64 401, .one (.seq (some false) [cT t])]) (.cons (.one .refl) tw_one)
  rw [nodesL_cons, nodesL_nil, Nat.add_zero, cT_eq] at h
  generalize min 401 t.nodes = n at *
  simp only [go_sem, cT_eq]
  refine call_pure h rfl ?_
  simp only [go_sem]
theorem isT_min (t : Tm) : decide (((min 401 t.nodes : Nat) : Int) ≤ 400) = decide (t.nodes ≤ 400) := decide_eq_decide.2 (by omega)
set_option maxRecDepth 100000 in
theorem t_all (hI : IdxSpec) (l : List Tm) (hl : l.length < 1000000) (hF : ∀ t ∈ l, FT t) (hK : ∀ t ∈ l, KT t) (hn : ∀ t ∈ l, t.nodes < 100000) : PCall Tryz.prog 86 [tLT l] (tB (l.all isT)) := by
  refine pcall_of_wpA mixed Tryz.call86 Tryz.func86 rfl Tryz.ntmps86 Tryz.results86 (by simp) (by decide) ?_
  simp only [go_sem]
  refine loop_inv (fun i : Nat => stL 21 [(5, .one (.t (eL cT l))), (6, litI .i64 l.length), (7, litI .i64 i)] []) (fun i => i ≤ l.length ∧ (l.take i).all isT = true) (fun i => l.length - i) 0 ?_ ⟨Nat.zero_le _, by simp⟩ ?_
  · (refine gstep_list rfl ?_ ?_ ?_ ?_ <;> (try simp only [go_sem, tail_one]) <;> (try simp))
  · rintro i ⟨hi, hinv⟩
    simp only [go_sem]
    refine CondR_if (fun hlt => ?_) (fun hge => ?_)
    · have hlt' : i < l.length := by omega
      have hel : elemD cT l i = cT l[i] := elemD_lt hlt'
      have hs := all_take_succ (p := isT) hlt'
      have hno := all_no (p := isT) hlt'
      have hFt := hF _ (List.getElem_mem hlt')
      have hKt := hK _ (List.getElem_mem hlt')
      have hnt := hn _ (List.getElem_mem hlt')
      generalize l[i] = t at *
      have h1 := t_Count t hKt
      have h2 := (t_nodes hI t.nodes [t] (by rw [nodesL_cons, nodesL_nil]; omega) (by omega) (fun k hk => by obtain rfl := List.mem_singleton.1 hk; exact hFt)).tw (tvs' := [.one (.seq (some false) [cT t])]) tw_one
      have e2 : [t].all okT = okT t := by simp
      rw [e2, cT_eq] at h2
      rw [show gT t = TV.agg (cT t) from rfl, cT_eq] at h1
      have e : isT t = (decide (t.nodes ≤ 400) && okT t) := rfl
      simp only [go_sem, hel, cT_eq]
      (repeat (refine And.intro (by omega) ?_))
      refine call_pure h1 rfl ?_
      by_cases c1 : t.nodes ≤ 400
      · have f1 : decide ((400 : Int) < ((min 401 t.nodes : Nat) : Int)) = false := decide_eq_false (by omega)
        cases c2 : okT t with
        | true =>
          rw [c2] at h2
          simp only [go_sem, f1, hel, cT_eq]
          refine call_pure h2 rfl ?_
          simp only [go_sem]
          refine ⟨i + 1, ⟨hlt', by rw [hs, hinv, e, c2, decide_eq_true c1]; rfl⟩, (by show l.length - (i + 1) < l.length - i; omega), ?_⟩
          (refine gstep_list rfl ?_ ?_ ?_ ?_ <;> (try simp only [go_sem, tail_one, wrap_i64 (n := (i : Int) + 1) (by omega) (by omega)]) <;> (try simp))
        | false =>
          rw [c2] at h2
          rw [show l.all isT = false from hno (by rw [e, c2, Bool.and_false])]
          simp only [go_sem, f1, hel, cT_eq]
          refine call_pure h2 rfl ?_
          simp only [go_sem]
      · have f1 : decide ((400 : Int) < ((min 401 t.nodes : Nat) : Int)) = true := decide_eq_true (by omega)
        rw [show l.all isT = false from hno (by rw [e, decide_eq_false c1, Bool.false_and])]
        simp only [go_sem, f1]
    · obtain rfl : i = l.length := by omega
      rw [List.take_length] at hinv
      rw [hinv]
      simp only [go_sem]
set_option maxRecDepth 100000 in
theorem t_Is (hI : IdxSpec) (t : Tm) (hF : FT t) (hK : KT t) (hn : t.nodes < 100000) : PCall Tryz.prog 48 [gT t] (tB (isT t)) := by
  refine pcall_of_wpA mixed Tryz.call48 Tryz.func48 rfl Tryz.ntmps48 Tryz.results48 (by simp) (by decide) ?_
  have one : ∀ {p : Tm → Prop}, p t → ∀ k ∈ [t], p k := fun h k hk => by obtain rfl := List.mem_singleton.1 hk; exact h
  have h := (t_all hI [t] (by simp) (one hF) (one hK) (one hn)).tw (tvs' := [.one (.seq (some false) [cT t])]) tw_one
  have e2 : [t].all isT = isT t := by simp
  rw [e2, cT_eq] at h
  simp only [go_sem, cT_eq]
  refine call_pure h rfl ?_
  simp only [go_sem]
end Go.Proofs.YtgnfgaioeldagaaGreat
