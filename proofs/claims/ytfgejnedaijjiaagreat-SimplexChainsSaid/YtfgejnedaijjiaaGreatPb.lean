/- At every input the call answers true and leaves its arguments as they were; no conditions. -/
import Derived.Test.YtfgejnedaijjiaaGreatPa
import Derived.Test.YtfgejnedaijjiaaGreatQa
import Derived.Test.YtfgejnedaijjiaaGreatIb
set_option linter.unusedSimpArgs false
set_option linter.unusedVariables false
namespace Go.Proofs.YtfgejnedaijjiaaGreat
open Go Go.Abs
set_option maxHeartbeats 8000000
/-! ### The reference's forms -/
set_option maxRecDepth 100000 in
theorem f6_Is (l : LL) (hl : l.1.length < 1000000000) (hb : ∀ m ∈ l.1, m.2.2.length < 1000000) (hk : l.2.2.length < 1000000) : PCall Tryz.prog 110 [gL l] (tB (decide (IsL l))) := by
  refine pcall_of_wpA mixed Tryz.call110 Tryz.func110 rfl Tryz.ntmps110 Tryz.results110 (by simp) (by decide) ?_
  have hK := i_Is l.2.1 l.2.2 (by omega)
  simp only [go_sem]
  refine loop_inv (fun p : Nat × Int => stL 51 [(1, .one (.ptr 1 0)), (3, litI .i64 p.1)] [(1, [.t (eL cM l.1), .t (.lit (.bool l.2.1)), .t (eN l.2.2)])])
    (fun p => p.1 ≤ l.1.length ∧ (IsM (-1) l.1 ↔ IsM p.2 (l.1.drop p.1)) ∧ (p.1 = 0 ∧ p.2 = -1 ∨ 0 ≤ p.2 ∧ ∃ j, ∃ h : j < l.1.length, p.1 = j + 1 ∧ l.1[j].1 = p.2)) (fun p => l.1.length - p.1) (0, -1) ?_ ⟨Nat.zero_le _, by rw [List.drop_zero], .inl ⟨rfl, rfl⟩⟩ ?_
  · (refine gstep_list rfl ?_ ?_ ?_ ?_ <;> (try simp only [go_sem, tail_one]) <;> (try simp))
  · rintro ⟨i, n⟩ ⟨hi, hiff, hlast⟩
    simp only at hi hiff hlast
    simp only [go_sem]
    refine CondR_if (fun hlt => ?_) (fun hge => ?_)
    · have hlt' : i < l.1.length := by omega
      rw [List.drop_eq_getElem_cons hlt'] at hiff
      have hel : elemD cM l.1 i = cM l.1[i] := elemD_lt hlt'
      have hm := hb _ (List.getElem_mem hlt')
      have h1 := i_Is l.1[i].2.1 l.1[i].2.2 (by omega)
      have h2 := i_Sign l.1[i].2.1 l.1[i].2.2 (by omega)
      have hmem : (l.1[i].1 : Int) = l.1[i].1 := rfl
      have hnext : ∀ (h : 0 ≤ l.1[i].1), 0 ≤ l.1[i].1 ∧ ∃ j, ∃ h : j < l.1.length, i + 1 = j + 1 ∧ l.1[j].1 = l.1[i].1 := fun h => ⟨h, i, hlt', rfl, rfl⟩
      generalize l.1[i] = m at *
      have bad : ¬ n < m.1 → decide (IsL l) = false := fun h => decide_eq_false fun hh => h (hiff.1 hh.1).1
      have rest : ∀ {σ : St} {Q : Exit → St → Prop} {c : Code}, True := trivial
      have hn1 : -1 ≤ n := by rcases hlast with ⟨_, h⟩ | ⟨h, _⟩ <;> omega
      by_cases c0 : m.1 < 0
      · rw [bad (by clear hlast hnext; omega)]
        have c0' : (m.1 < 0) = True := eq_true c0
        simp only [go_sem, hel, hlt]
        refine ⟨by omega, ?_⟩
        refine regA_by 0 rfl ?_
        simp only [go_sem, c0']
        try rfl
      · have c0' : (m.1 < 0) = False := eq_false c0
        by_cases c1 : n < m.1
        · have tail : m.1 ≤ n ↔ False := ⟨fun h => by omega, False.elim⟩
          rcases hlast with ⟨rfl, rfl⟩ | ⟨hn0, j, hj, rfl, hjn⟩
          · simp only [go_sem, hel, hlt]
            refine ⟨by omega, ?_⟩
            refine regA_by 0 rfl ?_
            simp only [go_sem, c0']
            refine call_pure h1 rfl ?_
            by_cases c2 : IsI m.2.1 m.2.2
            · simp only [go_sem, c2]
              refine call_pure h2 rfl ?_
              by_cases c3 : iv m.2.1 m.2.2 = 0
              · have e : decide (IsL l) = false := decide_eq_false fun h => (hiff.1 h.1).2.2.1 c3
                rw [e, c3]
                have e0 : (0 : Int).sign = 0 := rfl
                simp only [go_sem, e0]
                try rfl
              · have hne := sign_ne c3
                simp only [go_sem, hne]
                refine ⟨(0 + 1, m.1), ⟨hlt', ?_, .inr (hnext (by omega))⟩, (by show l.1.length - (0 + 1) < l.1.length - 0; omega), ?_⟩
                · rw [hiff]
                  exact ⟨fun h => h.2.2.2, fun h => ⟨c1, c2, c3, h⟩⟩
                · (refine gstep_list rfl ?_ ?_ ?_ ?_ <;> (try simp only [go_sem, tail_one, show IntKind.wrap .i64 1 = 1 from rfl]) <;> (try simp))
            · have e : decide (IsL l) = false := decide_eq_false fun h => c2 (hiff.1 h.1).2.1
              rw [e]
              simp only [go_sem, c2]
              try rfl
          · have hej : elemD cM l.1 j = cM l.1[j] := elemD_lt hj
            have c1' : (m.1 ≤ l.1[j].1) = False := eq_false (by rw [hjn]; omega)
            ((try simp only [go_sem, hel, hlt]); (try simp (disch := omega) only [wrap_i64, wrap_u64, wrap_u32, elemD_lt, hel, hlt]); (try simp only [go_sem, hel, hlt]); (try simp (disch := omega) only [wrap_i64, wrap_u64, wrap_u32, elemD_lt, hel, hlt]); (try simp only [go_sem, hel, hlt]))
            refine ⟨by omega, ?_⟩
            refine regA_by 0 rfl ?_
            ((try simp only [go_sem, c0', hej, c1', show (j : Int) + 1 - 1 = (j : Int) by omega]); (try simp (disch := omega) only [wrap_i64, wrap_u64, wrap_u32, elemD_lt, c0', hej, c1', show (j : Int) + 1 - 1 = (j : Int) by omega]); (try simp only [go_sem, c0', hej, c1', show (j : Int) + 1 - 1 = (j : Int) by omega]); (try simp (disch := omega) only [wrap_i64, wrap_u64, wrap_u32, elemD_lt, c0', hej, c1', show (j : Int) + 1 - 1 = (j : Int) by omega]); (try simp only [go_sem, c0', hej, c1', show (j : Int) + 1 - 1 = (j : Int) by omega]))
            refine ⟨by omega, ?_⟩
            refine call_pure h1 rfl ?_
            by_cases c2 : IsI m.2.1 m.2.2
            · simp only [go_sem, c2]
              refine call_pure h2 rfl ?_
              by_cases c3 : iv m.2.1 m.2.2 = 0
              · have e : decide (IsL l) = false := decide_eq_false fun h => (hiff.1 h.1).2.2.1 c3
                rw [e, c3]
                have e0 : (0 : Int).sign = 0 := rfl
                simp only [go_sem, e0]
                try rfl
              · have hne := sign_ne c3
                ((try simp only [go_sem, hne]); (try simp (disch := omega) only [wrap_i64, wrap_u64, wrap_u32, elemD_lt, hne]); (try simp only [go_sem, hne]); (try simp (disch := omega) only [wrap_i64, wrap_u64, wrap_u32, elemD_lt, hne]); (try simp only [go_sem, hne]))
                refine ⟨(j + 1 + 1, m.1), ⟨hlt', ?_, .inr (hnext (by omega))⟩, (by show l.1.length - (j + 1 + 1) < l.1.length - (j + 1); omega), ?_⟩
                · rw [hiff]
                  exact ⟨fun h => h.2.2.2, fun h => ⟨c1, c2, c3, h⟩⟩
                · (refine gstep_list rfl ?_ ?_ ?_ ?_ <;> (try simp only [go_sem, tail_one, wrap_i64 (n := (j : Int) + 1 + 1) (by omega) (by omega)]) <;> (try simp))
            · have e : decide (IsL l) = false := decide_eq_false fun h => c2 (hiff.1 h.1).2.1
              rw [e]
              simp only [go_sem, c2]
              try rfl
        · rw [bad c1]
          rcases hlast with ⟨rfl, rfl⟩ | ⟨hn0, j, hj, rfl, hjn⟩
          · omega
          · have hej : elemD cM l.1 j = cM l.1[j] := elemD_lt hj
            have c1' : (m.1 ≤ l.1[j].1) = True := eq_true (by rw [hjn]; omega)
            ((try simp only [go_sem, hel, hlt]); (try simp (disch := omega) only [wrap_i64, wrap_u64, wrap_u32, elemD_lt, hel, hlt]); (try simp only [go_sem, hel, hlt]); (try simp (disch := omega) only [wrap_i64, wrap_u64, wrap_u32, elemD_lt, hel, hlt]); (try simp only [go_sem, hel, hlt]))
            refine ⟨by omega, ?_⟩
            refine regA_by 0 rfl ?_
            ((try simp only [go_sem, c0', hej, c1', show (j : Int) + 1 - 1 = (j : Int) by omega]); (try simp (disch := omega) only [wrap_i64, wrap_u64, wrap_u32, elemD_lt, c0', hej, c1', show (j : Int) + 1 - 1 = (j : Int) by omega]); (try simp only [go_sem, c0', hej, c1', show (j : Int) + 1 - 1 = (j : Int) by omega]); (try simp (disch := omega) only [wrap_i64, wrap_u64, wrap_u32, elemD_lt, c0', hej, c1', show (j : Int) + 1 - 1 = (j : Int) by omega]); (try simp only [go_sem, c0', hej, c1', show (j : Int) + 1 - 1 = (j : Int) by omega]))
            refine ⟨by omega, ?_⟩
            omega
    · obtain rfl : i = l.1.length := by omega
      rw [List.drop_length] at hiff
      have hM : IsM (-1) l.1 := hiff.2 trivial
      have e : decide (IsL l) = decide (IsI l.2.1 l.2.2) := decide_eq_decide.2 ⟨fun h => h.2, fun h => ⟨hM, h⟩⟩
      rw [e]
      simp only [go_sem]
      refine call_pure hK rfl ?_
      simp only [go_sem]
set_option maxRecDepth 100000 in
theorem f6_May (l : LL) (hl : l.1.length < 1000000000) (hb : ∀ m ∈ l.1, m.2.2.length < 1000000) (hk : l.2.2.length < 1000000) : PCall Tryz.prog 60 [gL l] (eF (lv l)) := by
  refine pcall_of_wpA mixed Tryz.call60 Tryz.func60 rfl Tryz.ntmps60 Tryz.results60 (by simp) (by decide) ?_
  have h := f6_Is l hl hb hk
  by_cases c : IsL l
  · rw [← eF_lv c]
    simp only [go_sem]
    refine call_pure h rfl ?_
    simp only [go_sem, c]
    exact fz_agg3 .t .t .t
  · rw [show lv l = ([], 0) from if_neg c]
    simp only [go_sem]
    refine call_pure h rfl ?_
    simp only [go_sem, c]
    rw [eF_zero]
    exact fz_agg3 .weak .t .weak
theorem f6_May' {N L : Nat} {l : LL} (hN : N ≤ 1000000) (hL : L ≤ 900000) (h : BL N L l) : PCall Tryz.prog 60 [gL l] (eF (lv l)) :=
  f6_May l (by have := h.1; omega) (fun m hm => by have := (h.2.1 m hm).2; omega) (by have := h.2.2; omega)
theorem f6_May_e {N L : Nat} {f : Fm} (hN : N ≤ 1000000) (hL : L ≤ 900000) (wf : WF f) (h : Bd N L f) : PCall Tryz.prog 60 [eF f] (eF f) :=
  l_of_raw (r := eF) wf h fun l hl => f6_May' hN hL hl
set_option maxRecDepth 100000 in
theorem f6_Const (s : Bool) (a : List Nat) (ha : a.length < 1000000) : PCall Tryz.prog 25 [gI s a] (eF (constF (iv s a))) := by
  refine pcall_of_wpA mixed Tryz.call25 Tryz.func25 rfl Tryz.ntmps25 Tryz.results25 (by simp) (by decide) ?_
  have h := i_May s a (by omega)
  simp only [go_sem]
  ((repeat (refine regA_by 0 rfl ?_; simp only [go_sem])); refine call_pure (h) rfl ?_; simp only [go_sem]; (repeat (refine regA_by 0 rfl ?_; simp only [go_sem])))
  exact fz_agg3 .weak .t .t
theorem f6_Const_e (k : Int) (hk : lN k < 1000000) : PCall Tryz.prog 25 [eI k] (eF (constF k)) := by
  have := f6_Const (decide (k < 0)) (dig k.natAbs) hk; rwa [iv_eI] at this
set_option maxRecDepth 100000 in
theorem f6_Var (v : Int) (h1 : -9223372036854775808 ≤ v) (h2 : v < 9223372036854775808) : PCall Tryz.prog 28 [tI .i64 v] (eF (varF v.toNat)) := by
  refine pcall_of_wpA mixed Tryz.call28 Tryz.func28 rfl Tryz.ntmps28 Tryz.results28 (by simp) (by decide) ?_
  have h := i_Of 1 (by decide) (by decide)
  obtain ⟨u1, hu1⟩ : ∃ c : Int, c = 1 := ⟨_, rfl⟩
  have e : eF (varF v.toNat) = .agg [.seq none [[.lit (.int .i64 (v.toNat : Int)), .lit (.bool (decide (u1 < 0))), eN (dig u1.natAbs)]], .lit (.bool (decide ((0 : Int) < 0))), eN (dig (0 : Int).natAbs)] := by rw [hu1]; rfl
  have e2 : dig (0 : Int).natAbs = [] := dig_zero
  rw [e, e2]
  have h : PCall Tryz.prog 24 [tI .i64 1] (eI u1) := by rw [hu1]; exact h
  clear hu1
  simp only [go_sem]
  refine opA_max rfl (by simp only [go_sem] <;> rfl) (by simp only [go_sem] <;> rfl) (Nat.le_refl _) ?_
  have e3 : (if v > (0 : Int) then v else (0 : Int)) = (v.toNat : Int) := by split <;> omega
  simp only [go_sem, e3]
  ((repeat (refine regA_by 0 rfl ?_; simp only [go_sem])); refine call_pure (h) rfl ?_; simp only [go_sem]; (repeat (refine regA_by 0 rfl ?_; simp only [go_sem])))
  exact fz_agg3 .weak .t .weak
end Go.Proofs.YtfgejnedaijjiaaGreat
namespace Go.Proofs.YtfgejnedaijjiaaGreat
open Go Go.Abs
set_option maxHeartbeats 8000000
set_option maxRecDepth 100000 in
theorem f6_Equal (f g : Fm) {N L : Nat} (hN : N ≤ 1000000) (hL : L ≤ 900000) (hf : Bd N L f) (hg : Bd N L g) : PCall Tryz.prog 42 [eF f, eF g] (tB (decide (f = g))) := by
  refine pcall_of_wpA mixed Tryz.call42 Tryz.func42 rfl Tryz.ntmps42 Tryz.results42 (by simp) (by decide) ?_
  have l1 := hf.1
  have l2 := hg.1
  have hk := i_Equal_e f.2 g.2 (by have := hf.2.2; omega) (by have := hg.2.2; omega)
  by_cases hlen : f.1.length = g.1.length
  · have hlen' : ((f.1.length : Int) = (g.1.length : Int)) = True := eq_true (by omega)
    by_cases hkk : f.2 = g.2
    · have hk := tB_of hk hkk
      simp only [go_sem, hlen']
      refine call_pure hk rfl ?_
      simp only [go_sem]
      refine loop_inv (fun i : Nat => stL 57 [(2, .one (.ptr 2 0)), (3, .one (.ptr 3 0)), (5, litI .i64 i)] [(2, (cF f).map .t), (3, (cF g).map .t)])
        (fun i => i ≤ f.1.length ∧ f.1.take i = g.1.take i) (fun i => f.1.length - i) 0 ?_ ⟨Nat.zero_le _, rfl⟩ ?_
      · (refine gstep_list rfl ?_ ?_ ?_ ?_ <;> (try simp only [go_sem, tail_one]) <;> (try simp))
      · rintro i ⟨hi, hinv⟩
        simp only [go_sem]
        refine CondR_if (fun hlt => ?_) (fun hge => ?_)
        · have hlt' : i < f.1.length := by omega
          have hlt2 : i < g.1.length := by omega
          have hlt2' : ((i : Int) < (g.1.length : Int)) = True := eq_true (by omega)
          have hel : elemD cMn f.1 i = cMn f.1[i] := elemD_lt hlt'
          have hel2 : elemD cMn g.1 i = cMn g.1[i] := elemD_lt hlt2
          have h1 := i_Equal_e f.1[i].2 g.1[i].2 (by have := (hf.2.1 _ (List.getElem_mem hlt')).2; omega) (by have := (hg.2.1 _ (List.getElem_mem hlt2)).2; omega)
          have hne : ¬ f.1[i] = g.1[i] → decide (f = g) = false := fun h => decide_eq_false fun e => h (by subst e; rfl)
          have hnx : f.1[i] = g.1[i] → f.1.take (i + 1) = g.1.take (i + 1) := fun h => by rw [take_snoc hlt', take_snoc hlt2, hinv, h]
          generalize f.1[i] = m at *
          generalize g.1[i] = q at *
          simp only [go_sem, hel, hlt, hlt2']
          refine regA_by 0 rfl ?_
          by_cases c1 : m.1 = q.1
          · have c1' : ((m.1 : Int) = (q.1 : Int)) = True := eq_true (by omega)
            by_cases c2 : m.2 = q.2
            · have h1 := tB_of h1 c2
              simp only [go_sem, hel, hel2, hlt, hlt2', c1']
              (repeat (refine And.intro (by omega) ?_))
              refine call_pure h1 rfl ?_
              simp only [go_sem]
              refine ⟨i + 1, ⟨hlt', hnx (Prod.ext c1 c2)⟩, (by show f.1.length - (i + 1) < f.1.length - i; omega), ?_⟩
              (refine gstep_list rfl ?_ ?_ ?_ ?_ <;> (try simp only [go_sem, tail_one, wrap_i64 (n := (i : Int) + 1) (by omega) (by omega)]) <;> (try simp))
            · have h1 := tB_not h1 c2
              rw [hne fun e => c2 (by rw [e])]
              simp only [go_sem, hel, hel2, hlt, hlt2', c1']
              (repeat (refine And.intro (by omega) ?_))
              refine call_pure h1 rfl ?_
              simp only [go_sem]
              try rfl
          · have c1' : ((m.1 : Int) = (q.1 : Int)) = False := eq_false (by omega)
            rw [hne fun e => c1 (by rw [e])]
            simp only [go_sem, hel, hel2, hlt, hlt2', c1']
            (repeat (refine And.intro (by omega) ?_))
            try omega
        · obtain rfl : i = f.1.length := by omega
          rw [List.take_length, hlen, List.take_length] at hinv
          rw [decide_eq_true (show f = g from Prod.ext hinv hkk)]
          simp only [go_sem]
          try rfl
    · have hk := tB_not hk hkk
      rw [decide_eq_false (show ¬ f = g from fun e => hkk (by rw [e]))]
      simp only [go_sem, hlen']
      refine call_pure hk rfl ?_
      simp only [go_sem]
      try rfl
  · have hlen' : ((f.1.length : Int) = (g.1.length : Int)) = False := eq_false (by omega)
    rw [decide_eq_false (show ¬ f = g from fun e => hlen (by rw [e]))]
    simp only [go_sem, hlen']
    try rfl
set_option maxRecDepth 100000 in
theorem f6_Scale (a : LL) (s : Bool) (c : List Nat) {N L : Nat} (hN : N ≤ 1000000) (hL : L ≤ 900000) (ha : BL N L a) (hc : c.length < 1000000) : PCall Tryz.prog 48 [gL a, gI s c] (eF (scF (lv a) (iv s c))) := by
  refine pcall_of_wpA mixed Tryz.call48 Tryz.func48 rfl Tryz.ntmps48 Tryz.results48 (by simp) (by decide) ?_
  have h1 := f6_May' hN hL ha
  have h2 := i_Sign s c (by omega)
  have hbd := Bd_lv ha
  generalize lv a = f at *
  have hlc := lN_iv s c
  have mul : ∀ x : Int, lN x ≤ L → PCall Tryz.prog 66 [eI x, gI s c] (eI (x * iv s c)) := fun x hx => by
    have := i_Mul (decide (x < 0)) (dig x.natAbs) s c (by unfold lN at hx; omega) (by omega)
    rwa [iv_eI] at this
  have h3 := mul f.2 hbd.2.2
  generalize iv s c = k at *
  simp only [go_sem]
  refine call_pure h1 rfl ?_
  simp only [go_sem]
  refine call_pure h3 rfl ?_
  simp only [go_sem]
  refine call_pure h2 rfl ?_
  by_cases hz : k = 0
  · have e0 : (0 : Int).sign = 0 := rfl
    rw [hz, scF_eq0, eF_zero]
    simp only [go_sem, e0]
    rw [Int.mul_zero]
    exact fz_agg3 .weak .t (by rw [show (0 : Int).natAbs = 0 from rfl, dig_zero]; exact .t)
  · have hne := sign_ne hz
    rw [scF_ne hz]
    simp only [go_sem, hne]
    refine loop_inv (fun i : Nat => stL 47 [(3, .one (.ptr 3 0)), (4, .one (.ptr 4 0)), (5, .one (.ptr 5 0)), (6, .one (.ptr 6 0)), (7, litI .i64 i)]
        (accE 1000 cMn ((scM k f.1).take i) ++ [(3, [.t (.lit (.bool s)), .t (eN c)]), (4, [.t (.seq (some true) []), .t (.lit (.bool false)), .t (.seq (some true) [])]), (5, (cF f).map .t), (6, [accC 1000 3 ((scM k f.1).take i), .t (.lit (.bool (decide (f.2 * k < 0)))), .t (eN (dig (f.2 * k).natAbs))])]))
      (fun i => i ≤ f.1.length) (fun i => f.1.length - i) 0 ?_ (Nat.zero_le _) ?_
    · rw [List.take_zero]
      (refine gstep_list rfl ?_ ?_ ?_ ?_ <;> (try simp only [go_sem, tail_one]) <;> (try simp))
    · intro i hi
      simp only [go_sem]
      refine CondR_if (fun hlt => ?_) (fun hge => ?_)
      · have hlt' : i < f.1.length := by omega
        have hel : elemD cMn f.1 i = cMn f.1[i] := elemD_lt hlt'
        have hm := mul _ (hbd.2.1 _ (List.getElem_mem hlt')).2
        have hv := (hbd.2.1 _ (List.getElem_mem hlt')).1
        have hnx := scM_take (c := k) hlt'
        have hal : ((scM k f.1).take i).length = i := by rw [List.length_take, scM_len]; omega
        have hlen := hbd.1
        generalize f.1[i] = m at *
        generalize (scM k f.1).take i = acc at *
        simp only [go_sem, hel, hlt]
        refine regA_by 0 rfl ?_
        simp only [go_sem, hel, hlt]
        (repeat (refine And.intro (by omega) ?_))
        refine call_pure hm rfl ?_
        simp only [go_sem]
        refine opA_app_acc (sz := 3) (bytes := 40) (by simp only [go_sem, AppTy] <;> decide) cMn_len acc [(m.1, m.2 * k)] (b := 1000) (by simp only [go_sem] <;> rfl) (by simp only [go_sem] <;> rfl) (by simp only [go_sem] <;> rfl) rfl (by simp) (by simp only [List.length_cons, List.length_nil] at *; omega) (by decide) ?_
        simp only [go_sem]
        refine ⟨i + 1, hlt', (by show f.1.length - (i + 1) < f.1.length - i; omega), ?_⟩
        (refine gstep_list rfl ?_ ?_ ?_ ?_ <;> (try simp only [go_sem, tail_one, hnx, wrap_i64 (n := (i : Int) + 1) (by omega) (by omega)]) <;> (try simp))
      · obtain rfl : i = f.1.length := by omega
        rw [show f.1.length = (scM k f.1).length from scM_len.symm, List.take_length]
        simp only [go_sem]
        refine fz_agg3 (fz_acc cMn_len ?_) .t .t
        cases h : scM k f.1 with
        | nil => exact .inl rfl
        | cons z zs => right; rfl
theorem f6_Scale_e (f : Fm) (c : Int) {N L : Nat} (hN : N ≤ 1000000) (hL : L ≤ 900000) (wf : WF f) (hf : Bd N L f) (hc : lN c < 1000000) : PCall Tryz.prog 48 [eF f, eI c] (eF (scF f c)) := by
  have := f6_Scale (encL f) (decide (c < 0)) (dig c.natAbs) hN hL (BL_enc hf) hc
  rwa [lv_enc wf, iv_eI, gL_encL] at this
theorem f6_Scale_r (a : LL) (c : Int) {N L : Nat} (hN : N ≤ 1000000) (hL : L ≤ 900000) (ha : BL N L a) (hc : lN c < 1000000) : PCall Tryz.prog 48 [gL a, eI c] (eF (scF (lv a) c)) := by
  have := f6_Scale a (decide (c < 0)) (dig c.natAbs) hN hL ha hc
  rwa [iv_eI] at this
end Go.Proofs.YtfgejnedaijjiaaGreat
namespace Go.Proofs.YtfgejnedaijjiaaGreat
open Go Go.Abs
set_option maxHeartbeats 16000000
set_option maxRecDepth 100000 in
theorem f6_Add (a b : LL) {N L : Nat} (hN : N ≤ 1000000) (hL : L ≤ 90000) (ha : BL N L a) (hb : BL N L b) : PCall Tryz.prog 26 [gL a, gL b] (eF (addF (lv a) (lv b))) := by
  refine pcall_of_wpA mixed Tryz.call26 Tryz.func26 rfl Tryz.ntmps26 Tryz.results26 (by simp) (by decide) ?_
  have m1 := f6_May' hN (by omega) ha
  have m2 := f6_May' hN (by omega) hb
  have ba := Bd_lv ha
  have bb := Bd_lv hb
  generalize lv a = f at *
  generalize lv b = g at *
  have la := ba.1
  have lb := bb.1
  have hk := i_Add_e f.2 g.2 (by have := ba.2.2; omega) (by have := bb.2.2; omega)
  simp only [go_sem]
  refine regA_by 0 rfl ?_
  simp only [go_sem]
  ((repeat (refine regA_by 0 rfl ?_; simp only [go_sem])); refine call_pure (m1) rfl ?_; simp only [go_sem]; (repeat (refine regA_by 0 rfl ?_; simp only [go_sem])); refine call_pure (m2) rfl ?_; simp only [go_sem]; (repeat (refine regA_by 0 rfl ?_; simp only [go_sem])); refine call_pure (hk) rfl ?_; simp only [go_sem]; (repeat (refine regA_by 0 rfl ?_; simp only [go_sem])))
  refine loop_inv (fun p : Nat × Nat × List Mn => stL 140 [(4, .one (.ptr 4 0)), (5, .one (.ptr 5 0)), (6, .one (.ptr 6 0)), (7, .one (.ptr 7 0)), (8, litI .i64 p.1), (9, litI .i64 p.2.1)]
      (accE 1000 cMn p.2.2 ++ [(4, [.t (.seq (some true) []), .t (.lit (.bool false)), .t (.seq (some true) [])]), (5, (cF f).map .t), (6, (cF g).map .t), (7, [accC 1000 3 p.2.2, .t (.lit (.bool (decide (f.2 + g.2 < 0)))), .t (eN (dig (f.2 + g.2).natAbs))])]))
    (fun p => p.1 ≤ f.1.length ∧ p.2.1 ≤ g.1.length ∧ p.2.2 ++ mer (f.1.drop p.1) (g.1.drop p.2.1) = mer f.1 g.1 ∧ p.2.2.length ≤ p.1 + p.2.1) (fun p => (f.1.length - p.1) + (g.1.length - p.2.1)) (0, 0, []) ?_ ⟨Nat.zero_le _, Nat.zero_le _, rfl, Nat.le_refl _⟩ ?_
  · (refine gstep_list rfl ?_ ?_ ?_ ?_ <;> (try simp only [go_sem, tail_one]) <;> (try simp))
  · rintro ⟨i, k, acc⟩ ⟨hi, hk', hinv, hlen⟩
    simp only at hi hk' hinv hlen ⊢
    by_cases ci : i < f.1.length
    · have ci' : ((i : Int) < (f.1.length : Int)) = True := eq_true (by omega)
      have ne' : ((i : Int) = (f.1.length : Int)) = False := eq_false (by omega)
      have eli : elemD cMn f.1 i = cMn f.1[i] := elemD_lt ci
      have bi := ba.2.1 _ (List.getElem_mem ci)
      rw [List.drop_eq_getElem_cons ci] at hinv
      by_cases ck : k < g.1.length
      · have ck' : ((k : Int) < (g.1.length : Int)) = True := eq_true (by omega)
        have nk' : ((k : Int) = (g.1.length : Int)) = False := eq_false (by omega)
        have elk : elemD cMn g.1 k = cMn g.1[k] := elemD_lt ck
        have bk := bb.2.1 _ (List.getElem_mem ck)
        rw [List.drop_eq_getElem_cons ck, mer_cons] at hinv
        have bck : g.1.drop k = g.1[k] :: g.1.drop (k + 1) := List.drop_eq_getElem_cons ck
        have bci : f.1.drop i = f.1[i] :: f.1.drop (i + 1) := List.drop_eq_getElem_cons ci
        generalize f.1[i] = u at *
        generalize g.1[k] = v at *
        by_cases c1 : u.1 < v.1
        · rw [if_pos c1, ← bck] at hinv
          have c1' : ((u.1 : Int) < (v.1 : Int)) = True := eq_true (by omega)
          simp only [go_sem, ci', ck', nk', ne', eli, elk, c1']
          refine regA_by 2 rfl ?_
          simp only [go_sem, ci', ck', nk', ne', eli, elk, c1']
          (repeat (refine And.intro (by omega) ?_))
          refine regA_by 0 rfl ?_
          simp only [go_sem, ci', ck', nk', ne', eli, elk, c1']
          (repeat (refine And.intro (by omega) ?_))
          refine opA_app_acc (sz := 3) (bytes := 40) (by simp only [go_sem, AppTy] <;> decide) cMn_len acc [u] (b := 1000) (by simp only [go_sem] <;> rfl) (by simp only [go_sem] <;> rfl) (by simp only [go_sem] <;> rfl) rfl (by simp) (by simp only [List.length_cons, List.length_nil]; omega) (by decide) ?_
          simp only [go_sem]
          refine ⟨(i + 1, k, acc ++ [u]), ⟨ci, hk', by rw [← hinv]; simp, by simp only [List.length_append, List.length_cons, List.length_nil]; omega⟩, (by show (f.1.length - (i + 1)) + (g.1.length - k) < (f.1.length - i) + (g.1.length - k); omega), ?_⟩
          (refine gstep_list rfl ?_ ?_ ?_ ?_ <;> (try simp only [go_sem, tail_one, wrap_i64 (n := (i : Int) + 1) (by omega) (by omega)]) <;> (try simp))
        · rw [if_neg c1] at hinv
          have c1' : ((u.1 : Int) < (v.1 : Int)) = False := eq_false (by omega)
          by_cases c2 : v.1 < u.1
          · rw [if_pos c2, ← bci] at hinv
            have c2' : ((v.1 : Int) < (u.1 : Int)) = True := eq_true (by omega)
            simp only [go_sem, ci', ck', nk', ne', eli, elk, c1']
            refine regA_by 2 rfl ?_
            simp only [go_sem, ci', ck', nk', ne', eli, elk, c1']
            (repeat (refine And.intro (by omega) ?_))
            refine regA_by 2 rfl ?_
            simp only [go_sem, ci', ck', nk', ne', eli, elk, c1', c2']
            (repeat (refine And.intro (by omega) ?_))
            refine regA_by 0 rfl ?_
            simp only [go_sem, ci', ck', nk', ne', eli, elk, c1', c2']
            (repeat (refine And.intro (by omega) ?_))
            refine opA_app_acc (sz := 3) (bytes := 40) (by simp only [go_sem, AppTy] <;> decide) cMn_len acc [v] (b := 1000) (by simp only [go_sem] <;> rfl) (by simp only [go_sem] <;> rfl) (by simp only [go_sem] <;> rfl) rfl (by simp) (by simp only [List.length_cons, List.length_nil]; omega) (by decide) ?_
            simp only [go_sem]
            refine ⟨(i, k + 1, acc ++ [v]), ⟨hi, ck, by rw [← hinv]; simp, by simp only [List.length_append, List.length_cons, List.length_nil]; omega⟩, (by show (f.1.length - i) + (g.1.length - (k + 1)) < (f.1.length - i) + (g.1.length - k); omega), ?_⟩
            (refine gstep_list rfl ?_ ?_ ?_ ?_ <;> (try simp only [go_sem, tail_one, wrap_i64 (n := (k : Int) + 1) (by omega) (by omega)]) <;> (try simp))
          · rw [if_neg c2] at hinv
            have c2' : ((v.1 : Int) < (u.1 : Int)) = False := eq_false (by omega)
            have h1 := i_Add_e u.2 v.2 (by omega) (by omega)
            have hl := lN_add u.2 v.2
            have h2 := i_Sign_e (u.2 + v.2) (by omega)
            simp only [go_sem, ci', ck', nk', ne', eli, elk, c1']
            refine regA_by 2 rfl ?_
            simp only [go_sem, ci', ck', nk', ne', eli, elk, c1']
            (repeat (refine And.intro (by omega) ?_))
            refine regA_by 2 rfl ?_
            simp only [go_sem, ci', ck', nk', ne', eli, elk, c1', c2']
            (repeat (refine And.intro (by omega) ?_))
            refine regA_by 0 rfl ?_
            simp only [go_sem, ci', ck', nk', ne', eli, elk, c1', c2']
            (repeat (refine And.intro (by omega) ?_))
            refine call_pure h1 rfl ?_
            simp only [go_sem]
            refine call_pure h2 rfl ?_
            by_cases c3 : u.2 + v.2 = 0
            · rw [if_pos c3] at hinv
              have e0 : (0 : Int).sign = 0 := rfl
              rw [c3]
              simp only [go_sem, e0]
              refine ⟨(i + 1, k + 1, acc), ⟨ci, ck, hinv, (by show acc.length ≤ (i + 1) + (k + 1); omega)⟩, (by show (f.1.length - (i + 1)) + (g.1.length - (k + 1)) < (f.1.length - i) + (g.1.length - k); omega), ?_⟩
              (refine gstep_list rfl ?_ ?_ ?_ ?_ <;> (try simp only [go_sem, tail_one, wrap_i64 (n := (k : Int) + 1) (by omega) (by omega), wrap_i64 (n := (i : Int) + 1) (by omega) (by omega)]) <;> (try simp))
            · rw [if_neg c3] at hinv
              have hne := sign_ne c3
              simp only [go_sem, hne]
              refine regA_by 0 rfl ?_
              simp only [go_sem, ci', ck', nk', ne', eli, elk]
              (repeat (refine And.intro (by omega) ?_))
              refine opA_app_acc (sz := 3) (bytes := 40) (by simp only [go_sem, AppTy] <;> decide) cMn_len acc [(u.1, u.2 + v.2)] (b := 1000) (by simp only [go_sem] <;> rfl) (by simp only [go_sem] <;> rfl) (by simp only [go_sem] <;> rfl) rfl (by simp) (by simp only [List.length_cons, List.length_nil]; omega) (by decide) ?_
              simp only [go_sem]
              refine ⟨(i + 1, k + 1, acc ++ [(u.1, u.2 + v.2)]), ⟨ci, ck, by rw [← hinv]; simp, by simp only [List.length_append, List.length_cons, List.length_nil]; omega⟩, (by show (f.1.length - (i + 1)) + (g.1.length - (k + 1)) < (f.1.length - i) + (g.1.length - k); omega), ?_⟩
              (refine gstep_list rfl ?_ ?_ ?_ ?_ <;> (try simp only [go_sem, tail_one, wrap_i64 (n := (k : Int) + 1) (by omega) (by omega), wrap_i64 (n := (i : Int) + 1) (by omega) (by omega)]) <;> (try simp))
      · obtain rfl : k = g.1.length := by omega
        rw [List.drop_length, mer_nil_right] at hinv
        have ckk : ((g.1.length : Int) < (g.1.length : Int)) = False := eq_false (by omega)
        generalize f.1[i] = u at *
        simp only [go_sem, ci', eli]
        refine regA_by 2 rfl ?_
        simp only [go_sem, ci', eli]
        (repeat (refine And.intro (by omega) ?_))
        refine regA_by 0 rfl ?_
        simp only [go_sem, ci', eli]
        (repeat (refine And.intro (by omega) ?_))
        refine opA_app_acc (sz := 3) (bytes := 40) (by simp only [go_sem, AppTy] <;> decide) cMn_len acc [u] (b := 1000) (by simp only [go_sem] <;> rfl) (by simp only [go_sem] <;> rfl) (by simp only [go_sem] <;> rfl) rfl (by simp) (by simp only [List.length_cons, List.length_nil]; omega) (by decide) ?_
        simp only [go_sem]
        refine ⟨(i + 1, g.1.length, acc ++ [u]), ⟨ci, hk', by rw [List.drop_length, mer_nil_right, ← hinv]; simp, by simp only [List.length_append, List.length_cons, List.length_nil]; omega⟩, (by show (f.1.length - (i + 1)) + (g.1.length - g.1.length) < (f.1.length - i) + (g.1.length - g.1.length); omega), ?_⟩
        (refine gstep_list rfl ?_ ?_ ?_ ?_ <;> (try simp only [go_sem, tail_one, wrap_i64 (n := (i : Int) + 1) (by omega) (by omega)]) <;> (try simp))
    · obtain rfl : i = f.1.length := by omega
      have cii : ((f.1.length : Int) < (f.1.length : Int)) = False := eq_false (by omega)
      by_cases ck : k < g.1.length
      · have ck' : ((k : Int) < (g.1.length : Int)) = True := eq_true (by omega)
        have nk' : ((k : Int) = (g.1.length : Int)) = False := eq_false (by omega)
        have elk : elemD cMn g.1 k = cMn g.1[k] := elemD_lt ck
        rw [List.drop_length, mer_nil_left, List.drop_eq_getElem_cons ck] at hinv
        generalize g.1[k] = v at *
        simp only [go_sem, cii, ck', nk', elk]
        refine regA_by 2 rfl ?_
        simp only [go_sem, cii, ck', nk', elk]
        (repeat (refine And.intro (by omega) ?_))
        refine regA_by 2 rfl ?_
        simp only [go_sem, cii, ck', nk', elk]
        (repeat (refine And.intro (by omega) ?_))
        refine regA_by 0 rfl ?_
        simp only [go_sem, cii, ck', nk', elk]
        (repeat (refine And.intro (by omega) ?_))
        refine opA_app_acc (sz := 3) (bytes := 40) (by simp only [go_sem, AppTy] <;> decide) cMn_len acc [v] (b := 1000) (by simp only [go_sem] <;> rfl) (by simp only [go_sem] <;> rfl) (by simp only [go_sem] <;> rfl) rfl (by simp) (by simp only [List.length_cons, List.length_nil]; omega) (by decide) ?_
        simp only [go_sem]
        refine ⟨(f.1.length, k + 1, acc ++ [v]), ⟨hi, ck, by rw [List.drop_length, mer_nil_left, ← hinv]; simp, by simp only [List.length_append, List.length_cons, List.length_nil]; omega⟩, (by show (f.1.length - f.1.length) + (g.1.length - (k + 1)) < (f.1.length - f.1.length) + (g.1.length - k); omega), ?_⟩
        (refine gstep_list rfl ?_ ?_ ?_ ?_ <;> (try simp only [go_sem, tail_one, wrap_i64 (n := (k : Int) + 1) (by omega) (by omega)]) <;> (try simp))
      · obtain rfl : k = g.1.length := by omega
        have ckk : ((g.1.length : Int) < (g.1.length : Int)) = False := eq_false (by omega)
        rw [List.drop_length, List.drop_length, mer_nil_left, List.append_nil] at hinv
        simp only [go_sem, cii, ckk]
        have e : eF (addF f g) = .agg [eL cMn acc, .lit (.bool (decide (f.2 + g.2 < 0))), eN (dig (f.2 + g.2).natAbs)] := by rw [hinv]; rfl
        rw [e]
        refine fz_agg3 (fz_acc cMn_len ?_) .t .t
        cases acc with
        | nil => exact .inl rfl
        | cons z zs => right; rfl
theorem f6_Add_e (f g : Fm) {N L : Nat} (hN : N ≤ 1000000) (hL : L ≤ 90000) (wf : WF f) (wg : WF g) (hf : Bd N L f) (hg : Bd N L g) : PCall Tryz.prog 26 [eF f, eF g] (eF (addF f g)) :=
  l_of_raw2 (r := fun f g => eF (addF f g)) wf wg hf hg fun l k hl hk => f6_Add l k hN hL hl hk
end Go.Proofs.YtfgejnedaijjiaaGreat
