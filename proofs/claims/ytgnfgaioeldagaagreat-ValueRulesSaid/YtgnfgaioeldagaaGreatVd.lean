/- At every input the call answers true and leaves its arguments as they were; no conditions. -/
import Derived.Test.YtgnfgaioeldagaaGreatVc
import Derived.Test.YtgnfgaioeldagaaGreatKa
set_option linter.unusedSimpArgs false
set_option linter.unusedVariables false
namespace Go.Proofs.YtgnfgaioeldagaaGreat
open Go Go.Abs
set_option maxHeartbeats 8000000
/-- The first place where it is so; -1. -/
def idxB {α : Type} (p : α → Bool) (l : List α) : Int := if l.any p then ((l.findIdx p : Nat) : Int) else -1
section
variable {α : Type} {p : α → Bool} {l : List α} {i : Nat}
theorem idx_yes (h : i < l.length) (hi : i ≤ l.findIdx p) (hp : p l[i] = true) : idxB p l = i := by
  have h1 : l.any p = true := List.any_eq_true.2 ⟨_, List.getElem_mem h, hp⟩
  have h2 : l.findIdx p = i := by
    rcases Nat.lt_or_ge i (l.findIdx p) with c | c
    · rw [List.not_of_lt_findIdx c] at hp; cases hp
    · omega
  unfold idxB
  rw [h1, h2]; rfl
theorem idx_no (h : i < l.length) (hi : i ≤ l.findIdx p) (hp : p l[i] = false) : i + 1 ≤ l.findIdx p := by
  rcases Nat.lt_or_ge i (l.findIdx p) with c | c
  · exact c
  · have e : l.findIdx p = i := by omega
    have := List.findIdx_getElem (xs := l) (p := p) (w := by omega)
    simp only [e] at this
    rw [this] at hp; cases hp
theorem idx_none (h : l.findIdx p = l.length) : idxB p l = -1 := by
  unfold idxB
  rw [if_neg]
  intro h2
  obtain ⟨x, hx, hp⟩ := List.any_eq_true.1 h2
  have := List.findIdx_lt_length_of_exists (p := p) (xs := l) ⟨x, hx, hp⟩
  omega
end
theorem idxB_any {α : Type} (p : α → Bool) (l : List α) : decide (0 ≤ idxB p l) = l.any p := by
  unfold idxB
  cases c : l.any p with
  | true => simp
  | false => simp
set_option maxRecDepth 100000 in
theorem s_IndexRow (l : List Rw) (hl : l.length < 1000000000) (F : FuncId) (env : List (List T)) (p : Rw → Bool) (hp : ∀ r ∈ l, PCall Tryz.prog F (.agg (cRw r) :: env.map .ip) (tB (p r))) :
    PCall Tryz.prog 83 [.one (eL cRw l), .one (.clo F env)] (tI .i64 (idxB p l)) := by
  refine pcall_of_wpA mixed Tryz.call83 Tryz.func83 rfl Tryz.ntmps83 Tryz.results83 (by simp) (by decide) ?_
  simp only [go_sem]
  refine loop_inv (fun i : Nat => stL 19 [(0, .one (.t (eL cRw l))), (1, .one (.t (.clo F env))), (6, .one (.t (eL cRw l))), (7, litI .i64 l.length), (8, litI .i64 i)] []) (fun i => i ≤ l.findIdx p) (fun i => l.length - i) 0 ?_ (Nat.zero_le _) ?_
  · (refine gstep_list rfl ?_ ?_ ?_ ?_ <;> (try simp only [go_sem, tail_one]) <;> (try simp))
  · intro i hi
    have hfl := List.findIdx_le_length (p := p) (xs := l)
    simp only [go_sem]
    refine CondR_if (fun hlt => ?_) (fun hge => ?_)
    · have hlt' : i < l.length := by omega
      have hel : elemD cRw l i = cRw l[i] := elemD_lt hlt'
      have h := hp _ (List.getElem_mem hlt')
      have hy := @idx_yes _ p l i hlt' hi
      have hn := @idx_no _ p l i hlt' hi
      have hcl : (cRw l[i]).length = _ := cRw_len _
      have hcl2 := cRw_len
      generalize hu : l[i] = u at *
      simp only [go_sem, hel, hlt]
      (repeat (refine And.intro (by omega) ?_))
      try refine ⟨by omega, ?_⟩
      refine call_pure h (by simp only [List.map_cons, emb, List.map_map]; rfl) ?_
      cases c : p u with
      | true =>
        rw [hy c]
        simp only [go_sem]
      | false =>
        simp only [go_sem]
        refine ⟨i + 1, hn c, (by show l.length - (i + 1) < l.length - i; omega), ?_⟩
        (refine gstep_list rfl ?_ ?_ ?_ ?_ <;> (try simp only [go_sem, tail_one, wrap_i64 (n := (i : Int) + 1) (by omega) (by omega)]) <;> (try simp))
    · have e : l.findIdx p = l.length := by omega
      rw [idx_none e]
      simp only [go_sem]
set_option maxRecDepth 100000 in
theorem s_HasRow (l : List Rw) (hl : l.length < 1000000000) (F : FuncId) (env : List (List T)) (p : Rw → Bool) (hp : ∀ r ∈ l, PCall Tryz.prog F (.agg (cRw r) :: env.map .ip) (tB (p r))) :
    PCall Tryz.prog 43 [.one (eL cRw l), .one (.clo F env)] (tB (l.any p)) := by
  refine pcall_of_wpA mixed Tryz.call43 Tryz.func43 rfl Tryz.ntmps43 Tryz.results43 (by simp) (by decide) ?_
  have h := s_IndexRow l hl F env p hp
  have e := idxB_any p l
  generalize idxB p l = n at *
  rw [← e]
  simp only [go_sem]
  refine call_pure h rfl ?_
  simp only [go_sem]
set_option maxRecDepth 100000 in
theorem s_IndexVal (l : List VR) (hl : l.length < 1000000000) (F : FuncId) (env : List (List T)) (p : VR → Bool) (hp : ∀ r ∈ l, PCall Tryz.prog F (.agg (cV r) :: env.map .ip) (tB (p r))) :
    PCall Tryz.prog 148 [.one (eL cV l), .one (.clo F env)] (tI .i64 (idxB p l)) := by
  refine pcall_of_wpA mixed Tryz.call148 Tryz.func148 rfl Tryz.ntmps148 Tryz.results148 (by simp) (by decide) ?_
  simp only [go_sem]
  refine loop_inv (fun i : Nat => stL 19 [(0, .one (.t (eL cV l))), (1, .one (.t (.clo F env))), (6, .one (.t (eL cV l))), (7, litI .i64 l.length), (8, litI .i64 i)] []) (fun i => i ≤ l.findIdx p) (fun i => l.length - i) 0 ?_ (Nat.zero_le _) ?_
  · (refine gstep_list rfl ?_ ?_ ?_ ?_ <;> (try simp only [go_sem, tail_one]) <;> (try simp))
  · intro i hi
    have hfl := List.findIdx_le_length (p := p) (xs := l)
    simp only [go_sem]
    refine CondR_if (fun hlt => ?_) (fun hge => ?_)
    · have hlt' : i < l.length := by omega
      have hel : elemD cV l i = cV l[i] := elemD_lt hlt'
      have h := hp _ (List.getElem_mem hlt')
      have hy := @idx_yes _ p l i hlt' hi
      have hn := @idx_no _ p l i hlt' hi
      have hcl : (cV l[i]).length = _ := cV_len _
      have hcl2 := cV_len
      generalize hu : l[i] = u at *
      simp only [go_sem, hel, hlt]
      (repeat (refine And.intro (by omega) ?_))
      try refine ⟨by omega, ?_⟩
      refine call_pure h (by simp only [List.map_cons, emb, List.map_map]; rfl) ?_
      cases c : p u with
      | true =>
        rw [hy c]
        simp only [go_sem]
      | false =>
        simp only [go_sem]
        refine ⟨i + 1, hn c, (by show l.length - (i + 1) < l.length - i; omega), ?_⟩
        (refine gstep_list rfl ?_ ?_ ?_ ?_ <;> (try simp only [go_sem, tail_one, wrap_i64 (n := (i : Int) + 1) (by omega) (by omega)]) <;> (try simp))
    · have e : l.findIdx p = l.length := by omega
      rw [idx_none e]
      simp only [go_sem]
set_option maxRecDepth 100000 in
theorem s_HasVal (l : List VR) (hl : l.length < 1000000000) (F : FuncId) (env : List (List T)) (p : VR → Bool) (hp : ∀ r ∈ l, PCall Tryz.prog F (.agg (cV r) :: env.map .ip) (tB (p r))) :
    PCall Tryz.prog 129 [.one (eL cV l), .one (.clo F env)] (tB (l.any p)) := by
  refine pcall_of_wpA mixed Tryz.call129 Tryz.func129 rfl Tryz.ntmps129 Tryz.results129 (by simp) (by decide) ?_
  have h := s_IndexVal l hl F env p hp
  have e := idxB_any p l
  generalize idxB p l = n at *
  rw [← e]
  simp only [go_sem]
  refine call_pure h rfl ?_
  simp only [go_sem]
end Go.Proofs.YtgnfgaioeldagaaGreat
namespace Go.Proofs.YtgnfgaioeldagaaGreat
open Go Go.Abs
set_option maxHeartbeats 8000000
set_option maxRecDepth 100000 in
theorem s_EqualU (a b : List Nat) (ha : a.length < 9223372036854775807) : PCall Tryz.prog 59 [tN a, tN b] (tB (decide (a = b))) := by
  refine pcall_of_wpA mixed Tryz.call59 Tryz.func59 rfl Tryz.ntmps59 Tryz.results59 (by simp) (by decide) ?_
  simp only [go_sem]
  refine CondR_if (fun hne => ?_) (fun he => ?_)
  · have : ¬ a = b := fun e => by subst e; exact hne rfl
    rw [decide_eq_false this]
    simp only [go_sem]
  · have hlen : a.length = b.length := by omega
    simp only [go_sem]
    refine loop_inv (fun i : Nat => stL 26 [(0, aN a), (1, aN b), (12, litI .i64 a.length), (13, litI .i64 i)] []) (fun i => i ≤ a.length ∧ a.take i = b.take i) (fun i => a.length - i) 0 ?_ ⟨Nat.zero_le _, by simp⟩ ?_
    · (refine gstep_list rfl ?_ ?_ ?_ ?_ <;> (try simp only [go_sem, tail_one]) <;> (try simp))
    · rintro i ⟨hi, hinv⟩
      simp only [go_sem]
      refine CondR_if (fun hlt => ?_) (fun hge => ?_)
      · have hlt' : i < a.length := by omega
        have hlt2 : i < b.length := by omega
        have h1 : elemD limb a i = limb a[i] := elemD_lt hlt'
        have h2 : elemD limb b i = limb b[i] := elemD_lt hlt2
        have hs := take_succ_eq hlt' hlt2 hinv
        have hno : ¬ a[i] = b[i] → ¬ a = b := fun h e => h (by subst e; rfl)
        have hl2 : ((i : Int) < (b.length : Int)) = True := eq_true (by omega)
        generalize a[i] = x at *
        generalize b[i] = y at *
        simp only [go_sem, h1, h2, hlt, hl2]
        refine regA_by 0 rfl ?_
        simp only [go_sem, h1, h2, hlt, hl2]
        (repeat (refine And.intro (by omega) ?_))
        refine CondR_if (fun hne => ?_) (fun he => ?_)
        · rw [decide_eq_false (hno (fun e => hne (by rw [e])))]
          simp only [go_sem]
        · have he : x = y := by
            have : (x : Int) = (y : Int) := by
              by_cases e : (x : Int) = (y : Int)
              · exact e
              · exact (he e).elim
            omega
          simp only [go_sem]
          refine ⟨i + 1, ⟨hlt', hs.2 he⟩, (by show a.length - (i + 1) < a.length - i; omega), ?_⟩
          (refine gstep_list rfl ?_ ?_ ?_ ?_ <;> (try simp only [go_sem, tail_one, wrap_i64 (n := (i : Int) + 1) (by omega) (by omega)]) <;> (try simp))
      · obtain rfl : i = a.length := by omega
        rw [List.take_length, hlen, List.take_length] at hinv
        rw [decide_eq_true hinv]
        simp only [go_sem]
set_option maxRecDepth 100000 in
theorem v_Same (a b : VR) (ha : a.2.2.length < 9223372036854775807) : PCall Tryz.prog 21 [gV a, gV b] (tB (decide (a = b))) := by
  refine pcall_of_wpA mixed Tryz.call21 Tryz.func21 rfl Tryz.ntmps21 Tryz.results21 (by simp) (by decide) ?_
  have h := s_EqualU a.2.2 b.2.2 ha
  obtain ⟨a1, a2, a3⟩ := a
  obtain ⟨b1, b2, b3⟩ := b
  have e : decide ((a1, a2, a3) = (b1, b2, b3)) = (decide (a1 = b1) && (a2 == b2) && decide (a3 = b3)) := by
    rw [Bool.eq_iff_iff]
    simp only [decide_eq_true_eq, Bool.and_eq_true, Prod.mk.injEq, beq_iff_eq]
    exact ⟨fun ⟨h1, h2, h3⟩ => ⟨⟨h1, h2⟩, h3⟩, fun ⟨⟨h1, h2⟩, h3⟩ => ⟨h1, h2, h3⟩⟩
  rw [e]
  show wpA _ _ _ _
  cases c1 : decide (a1 = b1) with
  | false => simp only [go_sem, c1]
  | true =>
    cases c2 : (a2 == b2) with
    | false => simp only [go_sem, c1, c2]
    | true =>
      simp only [go_sem, c1, c2]
      refine call_pure h rfl ?_
      simp only [go_sem]
set_option maxRecDepth 100000 in
theorem v_Bool (b : Bool) : PCall Tryz.prog 49 [tB b] (gV (boolV b)) := by
  refine pcall_of_wpA mixed Tryz.call49 Tryz.func49 rfl Tryz.ntmps49 Tryz.results49 (by simp) (by decide) ?_
  have h := w_Of_e 1 (by decide) (by decide)
  cases b with
  | true =>
    simp only [go_sem]
    refine call_pure h rfl ?_
    simp only [go_sem]
    exact fz_Cs (.cons .t (.cons .t (.cons .t .nil)))
  | false =>
    simp only [go_sem]
    exact fz_Cs (.cons .t (.cons .t (.cons .weak .nil)))
set_option maxRecDepth 100000 in
theorem v_Int (n : ZI) : PCall Tryz.prog 89 [gI n.1 n.2] (gV (2, n)) := by
  refine pcall_of_wpA mixed Tryz.call89 Tryz.func89 rfl Tryz.ntmps89 Tryz.results89 (by simp) (by decide) ?_
  simp only [go_sem]
  exact fz_Cs (.cons .t (.cons .t (.cons .t .nil)))
set_option maxRecDepth 100000 in
theorem v_yes (v : VR) (hv : v.2.2.length < 1000000000) : PCall Tryz.prog 57 [gV v] (tB (yesV v)) := by
  refine pcall_of_wpA mixed Tryz.call57 Tryz.func57 rfl Tryz.ntmps57 Tryz.results57 (by simp) (by decide) ?_
  have h := w_Sign v.2.1 v.2.2 (by omega)
  have e : yesV v = !(decide ((iv v.2.1 v.2.2).sign = 0)) := by
    unfold yesV
    show decide (¬ iv v.2.1 v.2.2 = 0) = _
    by_cases z : iv v.2.1 v.2.2 = 0
    · rw [decide_eq_false (fun h => h z), decide_eq_true (Int.sign_eq_zero_iff_zero.2 z)]; rfl
    · rw [decide_eq_true z, decide_eq_false (fun h => z (Int.sign_eq_zero_iff_zero.1 h))]; rfl
  rw [e]
  generalize (iv v.2.1 v.2.2).sign = n at *
  simp only [go_sem]
  refine call_pure h rfl ?_
  simp only [go_sem, dne]
set_option maxRecDepth 100000 in
theorem v_of (hS : SmallSpec) (v : VR) (sort : Int) (hv : v.2.2.length ≤ 9223372036854775807) : PCall Tryz.prog 42 [gV v, tI .i64 sort] (tB (ofV v sort)) := by
  refine pcall_of_wpA mixed Tryz.call42 Tryz.func42 rfl Tryz.ntmps42 Tryz.results42 (by simp) (by decide) ?_
  have h2 := t_IsSort sort
  have h3 := w_Is_a v.2.1 v.2.2 (by omega)
  have h3 : PCall Tryz.prog 82 [gI v.2.1 v.2.2] (tB (decide (IsZ v.2))) := h3
  have key : ∃ (n : Int) (k : Bool), PCall Tryz.prog 81 [gI v.2.1 v.2.2] (.tup [tI .i64 n, tB k]) ∧ (k && (decide (n = 0) || decide (n = 1))) = (decide (zv v.2 = 0) || decide (zv v.2 = 1)) := by
    by_cases c : -9223372036854775808 ≤ iv v.2.1 v.2.2 ∧ iv v.2.1 v.2.2 < 9223372036854775808
    · exact ⟨_, _, hS v.2.1 v.2.2 (by omega) c.1 c.2, by rw [Bool.true_and]⟩
    · refine ⟨_, _, w_Small_out_a v.2.1 v.2.2 (by omega) c, ?_⟩
      rw [Bool.false_and, decide_eq_false (show ¬ zv v.2 = 0 by intro e; have e : iv v.2.1 v.2.2 = 0 := e; omega), decide_eq_false (show ¬ zv v.2 = 1 by intro e; have e : iv v.2.1 v.2.2 = 1 := e; omega)]; rfl
  obtain ⟨n, k, h1, hb⟩ := key
  have e : ofV v sort = (decide (v.1 = sort) && sortB sort && decide (IsZ v.2) && (decide (sort = 2) || (k && (decide (n = 0) || decide (n = 1))))) := by
    unfold ofV; rw [hb, Bool.or_assoc]
  rw [e]
  clear hb e
  generalize decide (IsZ v.2) = q3 at *
  generalize sortB sort = q2 at *
  have fin : ∀ q : Bool, q = (k && (decide (n = 0) || decide (n = 1))) → True := fun _ _ => trivial
  clear fin
  simp only [go_sem]
  refine call_pure h1 rfl ?_
  have step : ∀ q : Bool, (k && (decide (n = 0) || decide (n = 1))) = q → True := fun _ _ => trivial
  clear step
  cases k with
  | false =>
    simp only [go_sem]
    cases c4 : decide (v.1 = sort) with
    | false => simp only [go_sem, c4]
    | true =>
      simp only [go_sem, c4]
      refine call_pure h2 rfl ?_
      cases q2 with
      | false => simp only [go_sem]
      | true =>
        simp only [go_sem]
        refine call_pure h3 rfl ?_
        cases q3 with
        | false => simp only [go_sem]
        | true =>
          cases c5 : decide (sort = 2) with
          | true => simp only [go_sem, c5]
          | false => simp only [go_sem, c5]
  | true =>
    cases c0 : decide (n = 0) with
    | true =>
      simp only [go_sem, c0]
      cases c4 : decide (v.1 = sort) with
      | false => simp only [go_sem, c4]
      | true =>
        simp only [go_sem, c4]
        refine call_pure h2 rfl ?_
        cases q2 with
        | false => simp only [go_sem]
        | true =>
          simp only [go_sem]
          refine call_pure h3 rfl ?_
          cases q3 with
          | false => simp only [go_sem]
          | true =>
            cases c5 : decide (sort = 2) with
            | true => simp only [go_sem, c5]
            | false => simp only [go_sem, c5]
    | false =>
      cases c1 : decide (n = 1) with
      | true =>
        simp only [go_sem, c0, c1]
        cases c4 : decide (v.1 = sort) with
        | false => simp only [go_sem, c4]
        | true =>
          simp only [go_sem, c4]
          refine call_pure h2 rfl ?_
          cases q2 with
          | false => simp only [go_sem]
          | true =>
            simp only [go_sem]
            refine call_pure h3 rfl ?_
            cases q3 with
            | false => simp only [go_sem]
            | true =>
              cases c5 : decide (sort = 2) with
              | true => simp only [go_sem, c5]
              | false => simp only [go_sem, c5]
      | false =>
        simp only [go_sem, c0, c1]
        cases c4 : decide (v.1 = sort) with
        | false => simp only [go_sem, c4]
        | true =>
          simp only [go_sem, c4]
          refine call_pure h2 rfl ?_
          cases q2 with
          | false => simp only [go_sem]
          | true =>
            simp only [go_sem]
            refine call_pure h3 rfl ?_
            cases q3 with
            | false => simp only [go_sem]
            | true =>
              cases c5 : decide (sort = 2) with
              | true => simp only [go_sem, c5]
              | false => simp only [go_sem, c5]
end Go.Proofs.YtgnfgaioeldagaaGreat
namespace Go.Proofs.YtgnfgaioeldagaaGreat
open Go Go.Abs
set_option maxHeartbeats 8000000
/-! ### Structures -/
def limV (v : VR) : Prop := v.2.2.length < 1000000000
theorem limV.any {v : VR} (h : limV v) : v.2.2.length ≤ 9223372036854775807 := by unfold limV at h; omega
def limRw (r : Rw) : Prop := r.1.length < 1000000000 ∧ (∀ v ∈ r.1, limV v) ∧ limV r.2
def limFu (f : Fu) : Prop := f.1.1.size < 9223372036854775807 ∧ f.1.2.1.length < 1000000000 ∧ f.2.1.length < 1000000000 ∧ (∀ r ∈ f.2.1, limRw r) ∧ limV f.2.2
def limM (m : List Fu) : Prop := m.length < 1000000000 ∧ ∀ f ∈ m, limFu f
/-- The same, but that what a function tells else may be of any length. -/
def limFa (f : Fu) : Prop := f.1.1.size < 9223372036854775807 ∧ f.1.2.1.length < 1000000000 ∧ f.2.1.length < 1000000000 ∧ (∀ r ∈ f.2.1, limRw r) ∧ f.2.2.2.2.length ≤ 9223372036854775807
def limA (m : List Fu) : Prop := m.length < 1000000000 ∧ ∀ f ∈ m, limFa f
theorem limM.A {m : List Fu} (h : limM m) : limA m := ⟨h.1, fun f hf => by
  obtain ⟨l1, l2, l3, l4, l5⟩ := h.2 f hf
  exact ⟨l1, l2, l3, l4, by unfold limV at l5; omega⟩⟩
theorem argsB_len : ∀ {a : List VR} {b : List Int}, argsB a b = true → a.length = b.length
  | [], [], _ => rfl
  | [], _ :: _, h => by cases h
  | _ :: _, [], h => by cases h
  | x :: a, y :: b, h => by
    unfold argsB at h
    rw [Bool.and_eq_true] at h
    rw [List.length_cons, List.length_cons, argsB_len h.2]
theorem argsB_succ : ∀ {a : List VR} {b : List Int} {i : Nat} (h : i < a.length) (h' : i < b.length), argsB (a.take (i + 1)) (b.take (i + 1)) = (argsB (a.take i) (b.take i) && ofV a[i] b[i])
  | [], _, _, h, _ => by simp at h
  | _ :: _, [], _, _, h => by simp at h
  | x :: a, y :: b, 0, _, _ => by simp [argsB]
  | x :: a, y :: b, i + 1, h, h' => by
    have := argsB_succ (a := a) (b := b) (i := i) (by simpa using h) (by simpa using h')
    simp only [List.take_succ_cons, argsB, List.getElem_cons_succ]
    rw [this, Bool.and_assoc]
theorem argsB_no : ∀ {a : List VR} {b : List Int} {i : Nat} (h : i < a.length) (h' : i < b.length), ofV a[i] b[i] = false → argsB a b = false
  | [], _, _, h, _, _ => by simp at h
  | _ :: _, [], _, _, h, _ => by simp at h
  | x :: a, y :: b, 0, _, _, e => by
    simp only [List.getElem_cons_zero] at e
    unfold argsB; rw [e]; rfl
  | x :: a, y :: b, i + 1, h, h', e => by
    have := argsB_no (a := a) (b := b) (i := i) (by simpa using h) (by simpa using h') (by simpa using e)
    unfold argsB; rw [this, Bool.and_false]
set_option maxRecDepth 100000 in
theorem v_row (hS : SmallSpec) (r : Rw) (s : Sg) (hr : limRw r) (hs : s.2.1.length < 1000000000) : PCall Tryz.prog 45 [gRw r, gSg s] (tB (rowB s r)) := by
  refine pcall_of_wpA mixed Tryz.call45 Tryz.func45 rfl Tryz.ntmps45 Tryz.results45 (by simp) (by decide) ?_
  obtain ⟨av, v⟩ := r
  obtain ⟨nm, ss, rt⟩ := s
  obtain ⟨r1, r2, r3⟩ := hr
  have hs : ss.length < 1000000000 := hs
  have r1 : av.length < 1000000000 := r1
  have hv := v_of hS v rt r3.any
  have e : rowB (nm, ss, rt) (av, v) = (argsB av ss && ofV v rt) := rfl
  rw [e]
  by_cases hlen : av.length = ss.length
  · have f1 : decide ((av.length : Int) = (ss.length : Int)) = true := decide_eq_true (by omega)
    simp only [go_sem, dne, f1]
    refine call_pure hv rfl ?_
    cases c : ofV v rt with
    | false =>
      simp only [go_sem]
    | true =>
      simp only [go_sem]
      refine loop_inv (fun i : Nat => stL 39 [(3, .one (.ptr 3 0)), (23, .one (.t (eL cV av))), (24, litI .i64 av.length), (25, litI .i64 i)] [(3, [.t (.lit (.string nm)), .t (eL cInt ss), .t (.lit (.int .i64 rt))])])
        (fun i => i ≤ av.length ∧ argsB (av.take i) (ss.take i) = true) (fun i => av.length - i) 0 ?_ ⟨Nat.zero_le _, by simp [argsB]⟩ ?_
      · (refine gstep_list rfl ?_ ?_ ?_ ?_ <;> (try simp only [go_sem, tail_one]) <;> (try simp))
      · rintro i ⟨hi, hinv⟩
        simp only [go_sem]
        refine CondR_if (fun hlt => ?_) (fun hge => ?_)
        · have hlt' : i < av.length := by omega
          have hlt2 : i < ss.length := by omega
          have h1 : elemD cV av i = cV av[i] := elemD_lt hlt'
          have h2 : elemD cInt ss i = cInt ss[i] := elemD_lt hlt2
          have hsx := argsB_succ hlt' hlt2
          have hno := argsB_no hlt' hlt2
          have hl2 : ((i : Int) < (ss.length : Int)) = True := eq_true (by omega)
          have hx := v_of hS av[i] ss[i] (r2 _ (List.getElem_mem hlt')).any
          generalize av[i] = x at *
          generalize ss[i] = y at *
          simp only [go_sem, h1, h2, hlt, hl2]
          (repeat (refine And.intro (by omega) ?_))
          refine regA_by 0 rfl ?_
          simp only [go_sem, h1, h2, hlt, hl2]
          (repeat (refine And.intro (by omega) ?_))
          refine call_pure hx rfl ?_
          cases c2 : ofV x y with
          | false =>
            rw [hno c2]
            simp only [go_sem]
          | true =>
            simp only [go_sem]
            refine ⟨i + 1, ⟨hlt', by rw [hsx, hinv, c2]; rfl⟩, (by show av.length - (i + 1) < av.length - i; omega), ?_⟩
            (refine gstep_list rfl ?_ ?_ ?_ ?_ <;> (try simp only [go_sem, tail_one, wrap_i64 (n := (i : Int) + 1) (by omega) (by omega)]) <;> (try simp))
        · obtain rfl : i = av.length := by omega
          rw [List.take_length, hlen, List.take_length] at hinv
          rw [hinv]
          simp only [go_sem]
  · have f1 : decide ((av.length : Int) = (ss.length : Int)) = false := decide_eq_false (by omega)
    have e2 : argsB av ss = false := by
      cases c : argsB av ss with
      | false => rfl
      | true => exact (hlen (argsB_len c)).elim
    rw [e2]
    simp only [go_sem, dne, f1]
set_option maxRecDepth 100000 in
theorem v_Is1 (hS : SmallSpec) (r : Rw) (f : Fu) (hr : limRw r) (hs : f.1.2.1.length < 1000000000) : PCall Tryz.prog 44 [gRw r, .ip (cFu f)] (tB (!(rowB f.1 r))) := by
  refine pcall_of_wpA mixed Tryz.call44 Tryz.func44 rfl Tryz.ntmps44 Tryz.results44 (by simp) (by decide) ?_
  have h := v_row hS r f.1 hr hs
  simp only [go_sem]
  refine call_pure h rfl ?_
  simp only [go_sem]
theorem riseB_succ : ∀ {m : List Fu} {i : Nat} (h : i + 1 < m.length), riseB (m.take (i + 2)) = (riseB (m.take (i + 1)) && sLt m[i].1.1 m[i + 1].1.1)
  | [], _, h => by simp at h
  | [_], _, h => by simp at h
  | f :: g :: m, 0, _ => by simp [riseB]
  | f :: g :: m, i + 1, h => by
    have := riseB_succ (m := g :: m) (i := i) (by simpa using h)
    show (sLt f.1.1 g.1.1 && riseB (g :: m.take (i + 1))) = ((sLt f.1.1 g.1.1 && riseB (g :: m.take i)) && _)
    rw [Bool.and_assoc]
    congr 1
theorem riseB_no : ∀ {m : List Fu} {i : Nat} (h : i + 1 < m.length), sLt m[i].1.1 m[i + 1].1.1 = false → riseB m = false
  | [], _, h, _ => by simp at h
  | [_], _, h, _ => by simp at h
  | f :: g :: m, 0, _, e => by
    simp only [List.getElem_cons_zero, List.getElem_cons_succ] at e
    unfold riseB; rw [e]; rfl
  | f :: g :: m, i + 1, h, e => by
    have := riseB_no (m := g :: m) (i := i) (by simpa using h) (by simpa using e)
    unfold riseB; rw [this, Bool.and_false]
theorem sLe_not (a b : ByteArray) : (Op.bytesLess a.toList b.toList || a.toList == b.toList) = !(sLt b a) := by
  rw [bytes_eq]
  show (sLt a b || decide (a = b)) = _
  rcases sLt_tri a b with h | h | h
  · rw [h, sLt_asymm h]; rfl
  · subst h; rw [sLt_irrefl]; simp
  · rw [sLt_asymm h, h]
    rw [decide_eq_false (fun e => sLt_ne h e.symm)]; rfl
end Go.Proofs.YtgnfgaioeldagaaGreat
namespace Go.Proofs.YtgnfgaioeldagaaGreat
open Go Go.Abs
set_option maxHeartbeats 16000000
/-- Up to function i it is a structure. -/
def isMi (m : List Fu) (i : Nat) : Bool := (m.take i).all funB && riseB (m.take i)
theorem isMi_all (m : List Fu) : isMi m m.length = isM m := by unfold isMi isM; rw [List.take_length]
theorem isMi_zero (m : List Fu) : isMi m 0 = true := by unfold isMi; simp [riseB]
theorem isMi_succ {m : List Fu} {i : Nat} (h : i + 1 < m.length) : isMi m (i + 2) = (isMi m (i + 1) && funB m[i + 1] && sLt m[i].1.1 m[i + 1].1.1) := by
  unfold isMi
  rw [all_take_succ h, riseB_succ h]
  generalize (m.take (i + 1)).all funB = a
  generalize riseB (m.take (i + 1)) = b
  cases a <;> cases b <;> simp
theorem isMi_one {m : List Fu} (h : 0 < m.length) : isMi m 1 = funB m[0] := by
  unfold isMi
  cases m with
  | nil => simp at h
  | cons f m => simp [riseB]
theorem isM_no1 {m : List Fu} {i : Nat} (h : i < m.length) (hf : funB m[i] = false) : isM m = false := by
  unfold isM; rw [all_no h hf]; rfl
theorem isM_no2 {m : List Fu} {i : Nat} (h : i + 1 < m.length) (hf : sLt m[i].1.1 m[i + 1].1.1 = false) : isM m = false := by
  unfold isM; rw [riseB_no h hf, Bool.and_false]
theorem any_not {α : Type} (p : α → Bool) (l : List α) : (l.any fun r => !(p r)) = !(l.all p) := by
  induction l with
  | nil => rfl
  | cons a l ih => simp only [List.any_cons, List.all_cons, ih, Bool.not_and]
set_option maxRecDepth 100000 in
theorem v_IsA (hS : SmallSpec) (hI : IdxSpec) (m : List Fu) (hm : limA m) : PCall Tryz.prog 12 [tLF m] (tB (isM m)) := by
  refine pcall_of_wpA mixed Tryz.call12 Tryz.func12 rfl Tryz.ntmps12 Tryz.results12 (by simp) (by decide) ?_
  obtain ⟨hml, hmf⟩ := hm
  simp only [go_sem]
  refine loop_inv (fun i : Nat => stL 47 [(0, .one (.t (eL cFu m))), (5, .one (.t (eL cFu m))), (6, litI .i64 m.length), (7, litI .i64 i)] []) (fun i => i ≤ m.length ∧ isMi m i = true) (fun i => m.length - i) 0 ?_ ⟨Nat.zero_le _, isMi_zero m⟩ ?_
  · (refine gstep_list rfl ?_ ?_ ?_ ?_ <;> (try simp only [go_sem, tail_one]) <;> (try simp))
  · rintro i ⟨hi, hinv⟩
    simp only [go_sem]
    refine CondR_if (fun hlt => ?_) (fun hge => ?_)
    · have hlt' : i < m.length := by omega
      have hel : elemD cFu m i = cFu m[i] := elemD_lt hlt'
      obtain ⟨l1, l2, l3, l4, l5⟩ := hmf _ (List.getElem_mem hlt')
      have hno := isM_no1 hlt'
      -- what the step ahead tells of the names
      have hnx : ∃ q : Bool, (i = 0 → q = true) ∧ (∀ j (e : i = j + 1), q = sLt (m[j]'(by omega)).1.1 m[i].1.1) ∧ isMi m (i + 1) = (funB m[i] && q) ∧ (q = false → isM m = false) := by
        cases i with
        | zero => exact ⟨true, fun _ => rfl, fun j e => by omega, by rw [isMi_one hlt', Bool.and_true], fun h => by cases h⟩
        | succ j =>
          refine ⟨sLt m[j].1.1 m[j + 1].1.1, fun e => by omega, fun j2 e => ?_, ?_, isM_no2 hlt'⟩
          · obtain rfl : j = j2 := by omega
            rfl
          · rw [isMi_succ hlt', hinv, Bool.true_and]
      obtain ⟨q, hq0, hq1, hq2, hq3⟩ := hnx
      have h1 := t_IsSig hI m[i].1 l1 l2
      have h2 := v_of hS m[i].2.2 m[i].1.2.2 l5
      have h3 := s_HasRow m[i].2.1 l3 44 [cFu m[i]] (fun r => !(rowB m[i].1 r)) (fun r hr => v_Is1 hS r m[i] (l4 r hr) l2)
      rw [any_not] at h3
      have ef : funB m[i] = (sigB m[i].1 && ofV m[i].2.2 m[i].1.2.2 && m[i].2.1.all (rowB m[i].1)) := rfl
      have hprev : ∀ j (e : i = j + 1), elemD cFu m j = cFu (m[j]'(by omega)) := fun j e => elemD_lt (by omega)
      have hlq : ∀ j (e : i = j + 1), (Op.bytesLess m[i].1.1.toList (m[j]'(by omega)).1.1.toList || m[i].1.1.toList == (m[j]'(by omega)).1.1.toList) = !q := fun j e => by
        rw [sLe_not, hq1 j e]
      generalize hf : m[i] = f at *
      generalize sigB f.1 = b1 at *
      generalize ofV f.2.2 f.1.2.2 = b2 at *
      generalize f.2.1.all (rowB f.1) = b3 at *
      by_cases h0 : i = 0
      · have g0 : decide ((0 : Int) < (i : Int)) = false := decide_eq_false (by omega)
        have hq := hq0 h0
        subst hq
        simp only [go_sem, hel]
        (repeat (refine And.intro (by omega) ?_))
        refine regA_by 0 rfl ?_
        simp only [go_sem]
        refine call_pure h1 rfl ?_
        cases b1 with
        | false =>
          rw [hno (by rw [ef]; rfl)]
          simp only [go_sem, g0]
        | true =>
          simp only [go_sem, g0]
          (repeat (refine And.intro (by omega) ?_))
          refine call_pure h2 rfl ?_
          cases b2 with
          | false =>
            rw [hno (by rw [ef]; rfl)]
            simp only [go_sem]
          | true =>
            simp only [go_sem]
            refine call_clo [(4, cFu f)] rfl h3 (by simp only [go_sem] <;> simp) (by simp only [go_sem] <;> rfl) ?_
            cases b3 with
            | false =>
              rw [hno (by rw [ef]; rfl)]
              simp only [go_sem]
            | true =>
              simp only [go_sem]
              refine ⟨i + 1, ⟨hlt', by rw [hq2, ef]; rfl⟩, (by show m.length - (i + 1) < m.length - i; omega), ?_⟩
              (refine gstep_list rfl ?_ ?_ ?_ ?_ <;> (try simp only [go_sem, tail_one, wrap_i64 (n := (i : Int) + 1) (by omega) (by omega)]) <;> (try simp))
      · obtain ⟨j, hj⟩ : ∃ j, i = j + 1 := ⟨i - 1, by omega⟩
        have g0 : decide ((0 : Int) < (i : Int)) = true := decide_eq_true (by omega)
        have hp := hprev j hj
        have hl := hlq j hj
        have e1 : IntKind.i64.wrap ((i : Int) - 1) = (j : Int) := by rw [wrap_i64 (by omega) (by omega)]; omega
        have e2 : ((j : Int) < (m.length : Int)) = True := eq_true (by omega)
        generalize m[j]'(by omega) = g at *
        simp only [go_sem, hel]
        (repeat (refine And.intro (by omega) ?_))
        refine regA_by 0 rfl ?_
        simp only [go_sem]
        refine call_pure h1 rfl ?_
        cases q with
        | false =>
          rw [hq3 rfl]
          cases b1 with
          | false => simp only [go_sem]
          | true =>
            simp only [go_sem, g0, e1, e2, hp, hl]
            omega
        | true =>
          cases b1 with
          | false =>
            rw [hno (by rw [ef]; rfl)]
            simp only [go_sem, g0, e1, e2, hp, hl]
          | true =>
            simp only [go_sem, g0, e1, e2, hp, hl]
            (repeat (refine And.intro (by omega) ?_))
            refine call_pure h2 rfl ?_
            cases b2 with
            | false =>
              rw [hno (by rw [ef]; rfl)]
              simp only [go_sem]
            | true =>
              simp only [go_sem]
              refine call_clo [(4, cFu f)] rfl h3 (by simp only [go_sem] <;> simp) (by simp only [go_sem] <;> rfl) ?_
              cases b3 with
              | false =>
                rw [hno (by rw [ef]; rfl)]
                simp only [go_sem]
              | true =>
                simp only [go_sem]
                refine ⟨i + 1, ⟨hlt', by rw [hq2, ef]; rfl⟩, (by show m.length - (i + 1) < m.length - i; omega), ?_⟩
                (refine gstep_list rfl ?_ ?_ ?_ ?_ <;> (try simp only [go_sem, tail_one, wrap_i64 (n := (i : Int) + 1) (by omega) (by omega)]) <;> (try simp))
    · obtain rfl : i = m.length := by omega
      rw [isMi_all] at hinv
      rw [hinv]
      simp only [go_sem]
theorem v_Is (hS : SmallSpec) (hI : IdxSpec) (m : List Fu) (hm : limM m) : PCall Tryz.prog 12 [tLF m] (tB (isM m)) := v_IsA hS hI m hm.A
end Go.Proofs.YtgnfgaioeldagaaGreat
namespace Go.Proofs.YtgnfgaioeldagaaGreat
open Go Go.Abs
set_option maxHeartbeats 16000000
set_option maxRecDepth 100000 in
theorem v_heldA (hS : SmallSpec) (hI : IdxSpec) (m : List Fu) (hm : limA m) : PCall Tryz.prog 51 [tLF m] (tLF (heldM m)) := by
  refine pcall_of_wpA mixed Tryz.call51 Tryz.func51 rfl Tryz.ntmps51 Tryz.results51 (by simp) (by decide) ?_
  have h := v_IsA hS hI m hm
  unfold heldM
  cases c : isM m with
  | true =>
    rw [c] at h
    simp only [go_sem]
    refine call_pure h rfl ?_
    simp only [go_sem]
    exact fz_eL
  | false =>
    rw [c] at h
    simp only [go_sem]
    refine call_pure h rfl ?_
    simp only [go_sem]
    exact fz_nil
set_option maxRecDepth 100000 in
theorem s_EqVals (a b : List VR) (ha : a.length < 1000000000) (hl : ∀ v ∈ a, limV v) : PCall Tryz.prog 98 [tLV a, tLV b, .one (.clo 21 [])] (tB (decide (a = b))) := by
  refine pcall_of_wpA mixed Tryz.call98 Tryz.func98 rfl Tryz.ntmps98 Tryz.results98 (by simp) (by decide) ?_
  simp only [go_sem]
  refine CondR_if (fun hne => ?_) (fun he => ?_)
  · have : ¬ a = b := fun e => by subst e; exact hne rfl
    rw [decide_eq_false this]
    simp only [go_sem]
  · have hlen : a.length = b.length := by omega
    simp only [go_sem]
    refine loop_inv (fun i : Nat => stL 32 [(1, .one (.t (eL cV b))), (2, .one (.t (.clo 21 []))), (15, .one (.t (eL cV a))), (16, litI .i64 a.length), (17, litI .i64 i)] []) (fun i => i ≤ a.length ∧ a.take i = b.take i) (fun i => a.length - i) 0 ?_ ⟨Nat.zero_le _, by simp⟩ ?_
    · (refine gstep_list rfl ?_ ?_ ?_ ?_ <;> (try simp only [go_sem, tail_one]) <;> (try simp))
    · rintro i ⟨hi, hinv⟩
      simp only [go_sem]
      refine CondR_if (fun hlt => ?_) (fun hge => ?_)
      · have hlt' : i < a.length := by omega
        have hlt2 : i < b.length := by omega
        have h1 : elemD cV a i = cV a[i] := elemD_lt hlt'
        have h2 : elemD cV b i = cV b[i] := elemD_lt hlt2
        have hs := take_succ_eq hlt' hlt2 hinv
        have hno : ¬ a[i] = b[i] → ¬ a = b := fun h e => h (by subst e; rfl)
        have hl2 : ((i : Int) < (b.length : Int)) = True := eq_true (by omega)
        have hc := v_Same a[i] b[i] (by have := hl _ (List.getElem_mem hlt'); unfold limV at this; omega)
        generalize a[i] = x at *
        generalize b[i] = y at *
        simp only [go_sem, h1, h2, hlt, hl2]
        (repeat (refine And.intro (by omega) ?_))
        refine call_pure hc rfl ?_
        by_cases he : x = y
        · rw [decide_eq_true he]
          simp only [go_sem]
          refine ⟨i + 1, ⟨hlt', hs.2 he⟩, (by show a.length - (i + 1) < a.length - i; omega), ?_⟩
          (refine gstep_list rfl ?_ ?_ ?_ ?_ <;> (try simp only [go_sem, tail_one, wrap_i64 (n := (i : Int) + 1) (by omega) (by omega)]) <;> (try simp))
        · rw [decide_eq_false he, decide_eq_false (hno he)]
          simp only [go_sem]
      · obtain rfl : i = a.length := by omega
        rw [List.take_length, hlen, List.take_length] at hinv
        rw [decide_eq_true hinv]
        simp only [go_sem]
theorem appF_skip {s : Sg} {l : List VR} {m : List Fu} {i : Nat} (h : i < m.length) (hn : ¬ m[i].1 = s) : appF s l (m.drop i) = appF s l (m.drop (i + 1)) := by
  rw [List.drop_eq_getElem_cons h]
  show (if m[i].1 = s then _ else _) = _
  rw [if_neg hn]
theorem appF_hit {s : Sg} {l : List VR} {m : List Fu} {i : Nat} (h : i < m.length) (hn : m[i].1 = s) : appF s l (m.drop i) = rowF l m[i].2.2 m[i].2.1 := by
  rw [List.drop_eq_getElem_cons h]
  show (if m[i].1 = s then _ else _) = _
  rw [if_pos hn]
theorem rowF_skip {l : List VR} {e : VR} {m : List Rw} {i : Nat} (h : i < m.length) (hn : ¬ m[i].1 = l) : rowF l e (m.drop i) = rowF l e (m.drop (i + 1)) := by
  rw [List.drop_eq_getElem_cons h]
  show (if m[i].1 = l then _ else _) = _
  rw [if_neg hn]
theorem rowF_hit {l : List VR} {e : VR} {m : List Rw} {i : Nat} (h : i < m.length) (hn : m[i].1 = l) : rowF l e (m.drop i) = m[i].2 := by
  rw [List.drop_eq_getElem_cons h]
  show (if m[i].1 = l then _ else _) = _
  rw [if_pos hn]
set_option maxRecDepth 100000 in
theorem v_applyA (m : List Fu) (s : Sg) (l : List VR) (hm : limA m) (hs : s.2.1.length < 1000000000) : PCall Tryz.prog 54 [tLF m, gSg s, tLV l] (gV (appF s l m)) := by
  refine pcall_of_wpA mixed Tryz.call54 Tryz.func54 rfl Tryz.ntmps54 Tryz.results54 (by simp) (by decide) ?_
  obtain ⟨hml, hmf⟩ := hm
  obtain ⟨R, hR⟩ : ∃ R, R = appF s l m := ⟨_, rfl⟩
  rw [← hR]
  obtain ⟨nm, ss, rt⟩ := s
  have hs : ss.length < 1000000000 := hs
  simp only [go_sem]
  refine loop_inv (fun i : Nat => stL 42 [(2, .one (.t (eL cV l))), (4, .one (.ptr 4 0)), (6, .one (.ptr 6 0)), (11, .one (.t (eL cFu m))), (12, litI .i64 m.length), (13, litI .i64 i)] [(4, [.t (.lit (.string nm)), .t (eL cInt ss), .t (.lit (.int .i64 rt))]), (6, [.t (.lit (.int .i64 0)), .t (.lit (.bool false)), .t (.seq (some true) [])])])
    (fun i => i ≤ m.length ∧ R = appF (nm, ss, rt) l (m.drop i)) (fun i => m.length - i) 0 ?_ ⟨Nat.zero_le _, by rw [List.drop_zero]; exact hR⟩ ?_
  · (refine gstep_list rfl ?_ ?_ ?_ ?_ <;> (try simp only [go_sem, tail_one]) <;> (try simp))
  · rintro i ⟨hi, hinv⟩
    simp only [go_sem]
    refine CondR_if (fun hlt => ?_) (fun hge => ?_)
    · have hlt' : i < m.length := by omega
      have hel : elemD cFu m i = cFu m[i] := elemD_lt hlt'
      obtain ⟨l1, l2, l3, l4, l5⟩ := hmf _ (List.getElem_mem hlt')
      have hsk := @appF_skip (nm, ss, rt) l m i hlt'
      have hht := @appF_hit (nm, ss, rt) l m i hlt'
      have h1 := t_SameSig m[i].1 (nm, ss, rt) l2 hs
      generalize m[i] = f at *
      simp only [go_sem, hel]
      (repeat (refine And.intro (by omega) ?_))
      refine call_pure h1 rfl ?_
      by_cases he : f.1 = (nm, ss, rt)
      · rw [decide_eq_true he]
        rw [hht he] at hinv
        simp only [go_sem]
        refine loop_inv (fun k : Nat => stL 42 [(2, .one (.t (eL cV l))), (6, .one (.ptr 6 0)), (8, .one (.ptr 8 0)), (23, .one (.t (eL cRw f.2.1))), (24, litI .i64 f.2.1.length), (25, litI .i64 k)] [(6, [.t (.lit (.int .i64 0)), .t (.lit (.bool false)), .t (.seq (some true) [])]), (8, (cFu f).map .t)])
          (fun k => k ≤ f.2.1.length ∧ R = rowF l f.2.2 (f.2.1.drop k)) (fun k => f.2.1.length - k) 0 ?_ ⟨Nat.zero_le _, by rw [List.drop_zero]; exact hinv⟩ ?_
        · (refine gstep_list rfl ?_ ?_ ?_ ?_ <;> (try simp only [go_sem, tail_one]) <;> (try simp))
        · rintro k ⟨hk, hkv⟩
          simp only [go_sem]
          refine CondR_if (fun klt => ?_) (fun kge => ?_)
          · have klt' : k < f.2.1.length := by omega
            have kel : elemD cRw f.2.1 k = cRw f.2.1[k] := elemD_lt klt'
            obtain ⟨q1, q2, q3⟩ := l4 _ (List.getElem_mem klt')
            have ksk := @rowF_skip l f.2.2 f.2.1 k klt'
            have kht := @rowF_hit l f.2.2 f.2.1 k klt'
            have h2 := s_EqVals f.2.1[k].1 l q1 q2
            generalize f.2.1[k] = r at *
            simp only [go_sem, kel]
            (repeat (refine And.intro (by omega) ?_))
            refine call_clo [] rfl h2 trivial (by simp only [go_sem] <;> rfl) ?_
            by_cases he2 : r.1 = l
            · rw [decide_eq_true he2]
              rw [kht he2] at hkv
              rw [hkv]
              simp only [go_sem]
              exact fz_Cs (.cons .t (.cons .t (.cons .t .nil)))
            · rw [decide_eq_false he2]
              simp only [go_sem]
              refine ⟨k + 1, ⟨klt', by rw [hkv, ksk he2]⟩, (by show f.2.1.length - (k + 1) < f.2.1.length - k; omega), ?_⟩
              (refine gstep_list rfl ?_ ?_ ?_ ?_ <;> (try simp only [go_sem, tail_one, wrap_i64 (n := (k : Int) + 1) (by omega) (by omega)]) <;> (try simp))
          · obtain rfl : k = f.2.1.length := by omega
            rw [List.drop_length] at hkv
            rw [hkv]
            simp only [go_sem]
            exact fz_Cs (.cons .t (.cons .t (.cons .t .nil)))
      · rw [decide_eq_false he]
        simp only [go_sem]
        refine ⟨i + 1, ⟨hlt', by rw [hinv, hsk he]⟩, (by show m.length - (i + 1) < m.length - i; omega), ?_⟩
        (refine gstep_list rfl ?_ ?_ ?_ ?_ <;> (try simp only [go_sem, tail_one, wrap_i64 (n := (i : Int) + 1) (by omega) (by omega)]) <;> (try simp))
    · obtain rfl : i = m.length := by omega
      rw [List.drop_length] at hinv
      rw [hinv]
      simp only [go_sem]
      exact fz_Cs (.cons .t (.cons .t (.cons .weak .nil)))
theorem v_held (hS : SmallSpec) (hI : IdxSpec) (m : List Fu) (hm : limM m) : PCall Tryz.prog 51 [tLF m] (tLF (heldM m)) := v_heldA hS hI m hm.A
theorem v_apply (m : List Fu) (s : Sg) (l : List VR) (hm : limM m) (hs : s.2.1.length < 1000000000) : PCall Tryz.prog 54 [tLF m, gSg s, tLV l] (gV (appF s l m)) := v_applyA m s l hm.A hs
set_option maxRecDepth 100000 in
theorem v_Of (hS : SmallSpec) (hI : IdxSpec) (m : List Fu) (s : Sg) (l : List VR) (hm : limM m) (hs : s.2.1.length < 1000000000) : PCall Tryz.prog 17 [tLF m, gSg s, tLV l] (gV (appF s l (heldM m))) := by
  refine pcall_of_wpA mixed Tryz.call17 Tryz.func17 rfl Tryz.ntmps17 Tryz.results17 (by simp) (by decide) ?_
  have h1 := v_held hS hI m hm
  have h2 := v_apply (heldM m) s l (by
    unfold heldM
    split
    · exact hm
    · exact ⟨by simp, fun f hf => by cases hf⟩) hs
  generalize appF s l (heldM m) = v at *
  generalize heldM m = m2 at *
  simp only [go_sem]
  refine regA_by 0 rfl ?_
  simp only [go_sem]
  refine call_pure h1 rfl ?_
  simp only [go_sem]
  refine call_pure h2 rfl ?_
  simp only [go_sem]
  exact fz_Cs (.cons .t (.cons .t (.cons .t .nil)))
end Go.Proofs.YtgnfgaioeldagaaGreat
