/- At every input the call answers true and leaves its arguments as they were; no conditions. -/
import Derived.Test.YtfgejnedaijjiaaGreatCf
import Derived.Test.YtfgejnedaijjiaaGreatNx
set_option linter.unusedSimpArgs false
set_option linter.unusedVariables false
namespace Go.Proofs.YtfgejnedaijjiaaGreat
open Go Go.Abs
set_option maxHeartbeats 32000000
theorem sub_var (v : Nat) (n : Int) : addF (varF v) (scF (constF n) (-1)) = intF v n := by
  have := branch_form v n
  rw [add_zero_left] at this
  rw [← this]; congr 1
theorem not_int (v : Nat) (n : Int) : addF (constF (n + 1)) (scF (varF v) (-1)) = notF (intF v n) := by
  unfold notF scF
  rw [if_neg (by decide), if_neg (by decide)]
  show (mer [] [(v, (1 : Int) * -1)], (n + 1) + (0 : Int) * -1) = (mer [] [(v, (1 : Int) * -1)], 1 + -n * -1)
  refine Prod.ext rfl ?_
  show (n + 1) + (0 : Int) * -1 = 1 + -n * -1; omega
theorem FLs.bl {a : List LL} (h : FLs a) (ho : ∀ l ∈ a, LLok l) : ∀ l ∈ a, BL 8 4 l := fun l hl => (h.1 l hl).bl (ho l hl)
theorem FLs.lastV {a : List LL} (h : FLs a) : ∀ l ∈ a, lastV (lv l) ≤ 101 := fun l hl => lastV_le fun m hm => by
  unfold lv at hm; split at hm
  · obtain ⟨x, hx, rfl⟩ := List.mem_map.1 hm
    have := ((h.1 l hl).1 x hx).2
    show x.1.toNat < 101; omega
  · cases hm
theorem Bd_intF {v : Nat} {n : Int} {L : Nat} (hv : v < 9223372036854775808) (h1 : 1 ≤ L) (hn : lN n ≤ L) : Bd 1 L (intF v n) :=
  Bd_single hv (Nat.le_trans (lN_small (by omega)) h1) (by rw [lN_neg]; exact hn)
theorem acc_ne {α : Type} {b sz : Nat} {xs : List α} (h : xs ≠ []) : accC b sz xs = .vec b sz 0 xs.length := by
  cases xs with
  | nil => exact (h rfl).elim
  | cons x xs => rfl
theorem accH_ne {α : Type} {f : α → List T} {xs : List α} {o : Option (List C)} (h : xs ≠ []) : accH f xs o = some (cellsL f xs) := by
  cases xs with
  | nil => exact (h rfl).elim
  | cons x xs => rfl
set_option maxRecDepth 100000 in
theorem p_CutTells (a : List LL) (ja : a.length ≤ maxLen) (ka : ∀ l ∈ a, LLok l) (f : List QQ) (jf : f.length ≤ maxLen) (x : List QQ) (jx : x.length ≤ maxLen) (v : Int) (v1 : -9223372036854775808 ≤ v) (v2 : v < 9223372036854775808) (r1 : Bool) (r2 r3 : List Nat) :
    PCall Tryz.prog 8 [.one (eL cL a), tLQ f, tLQ x, tI .i64 v, .agg [.lit (.bool r1), eN r2, eN r3]] (tB true) := by
  have hk := known21
  have q1 := fewLins21 a ja ka
  have q2 := fewRats21 f jf
  have q3 := fewRats21 x jx
  have q4 := (fewRats21 [(r1, r2, r3)] (by simp; decide)).tw (tvs' := [.one (.seq (some false) [[.lit (.bool r1), eN r2, eN r3]])]) (.cons (.one .weak) .nil)
  refine pcall_of_wpA mixed Tryz.call8 Tryz.func8 rfl Tryz.ntmps8 Tryz.results8 (by simp) (by decide) ?_
  by_cases c1 : FLs a
  · have q1 := tB_of q1 c1
    by_cases c2 : FR f
    · have q2 := tB_of q2 c2
      by_cases c3 : FR x
      · have q3 := tB_of q3 c3
        by_cases c4 : FR [(r1, r2, r3)]
        · have q4 := tB_of q4 c4
          have hA := c1.bl ka
          have hal := c1.2
          have hr : r2.length ≤ 3 ∧ r3.length ≤ 3 := c4.1 _ (List.mem_singleton.2 rfl)
          obtain ⟨G, k, _, _, ro, ro2, wR, bR⟩ := round_both a f (A := 10) (N := 8) (L := 4) (K := 3) (V := 101) c1.2 (by decide) (by have := c2.2; omega) (by decide) (by decide) (by decide) (by decide) (by decide) hA c1.lastV (by decide) c2.1
          have br := c_Branch v (r1, r2, r3) (K := 3) v1 v2 (by decide) (by decide) hr.1 hr.2 _ rfl
          have fl := r_FloorRat r1 r2 r3 (by have := hr.1; omega) (by have := hr.2; omega)
          have ln : lN (qv r1 r2 r3).floor ≤ 10 := by
            have h1 := lN_floor (qv r1 r2 r3)
            have h2 := lQ_num (qv r1 r2 r3)
            have h3 := lQ_qv r1 r2 r3
            have h4 := hr.1
            have h5 := hr.2
            omega
          rw [branch_form] at br
          show wpA _ _ _ _
          unfold qQ at br
          generalize hn : (qv r1 r2 r3).floor = n at *
          have va := f6_Var v v1 v2
          obtain ⟨w, hw⟩ : ∃ w, w = v.toNat := ⟨_, rfl⟩
          rw [← hw] at br va
          have hw2 : w < 9223372036854775808 := by omega
          have bV : Bd 1 1 (varF w) := Bd_single hw2 (lN_small (by decide)) (by rw [lN_zero]; omega)
          have cn := f6_Const_e n (by omega)
          have su := f6_Sub (encL (varF w)) (encL (constF n)) (N := 1) (L := 10) (by decide) (by decide) (BL_enc (bV.mono (by decide) (by decide))) (BL_enc ⟨Nat.zero_le _, (fun m hm => by cases hm), ln⟩)
          rw [gL_encL, gL_encL, lv_enc (WF_var w), lv_enc (WF_const n), sub_var] at su
          have l1 : lN 1 ≤ 1 := lN_small (by omega)
          have ln1 := lN_add n 1
          have o1 := i_Of 1 (by decide) (by decide)
          have ad := i_Add_e n 1 (by omega) (by omega)
          have cm := f6_Const_e (n + 1) (by omega)
          have sv := f6_Sub (encL (constF (n + 1))) (encL (varF w)) (N := 1) (L := 12) (by decide) (by decide) (BL_enc ⟨Nat.zero_le _, (fun m hm => by cases hm), by show lN (n + 1) ≤ 12; omega⟩) (BL_enc (bV.mono (by decide) (by decide)))
          rw [gL_encL, gL_encL, lv_enc (WF_var w), lv_enc (WF_const (n + 1)), not_int] at sv
          have bP : Bd 1 10 (intF w n) := Bd_intF hw2 (by decide) ln
          have bN := Bd_not (by decide) bP
          have e1 := tB_of (f6_Equal (rdF a f G k) (rdF a f G k) (by decide) (by decide) bR bR) rfl
          have e2 := tB_of (f6_Equal (intF w n) (intF w n) (by decide) (by decide) bP bP) rfl
          have e3 := tB_of (f6_Equal (notF (intF w n)) (notF (intF w n)) (by decide) (by decide) bN bN) rfl
          have cu := c_Cuts a x (N := 8) (L := 4) (K := 3) (by omega) (by have := c3.2; omega) (by decide) (by decide) (by decide) (by decide) (by decide) hA c3.1
          have hcut : ∀ i, ∀ o ∈ cutsL (ptQ x) ((a.map lv).take i), WF o ∧ Bd 8 5 o := fun i o ho => by
            obtain ⟨f, hf, rfl⟩ := cutsL_mem i o ho
            obtain ⟨l, hl, rfl⟩ := List.mem_map.1 hf
            exact ⟨WF_norm (WF_lv l), Bd_norm (Bd_lv (hA l hl))⟩
          have hcut0 : ∀ o ∈ cutsL (ptQ x) (a.map lv), Bd 8 5 o := fun o ho => (hcut (a.map lv).length o (by rw [List.take_of_length_le (Nat.le_refl _)]; exact ho)).2
          have hclen : (cutsL (ptQ x) (a.map lv)).length < 1000000000 := by
            have := cutsL_len (ptQ x) (a.map lv) (a.map lv).length
            rw [List.take_of_length_le (Nat.le_refl _), List.length_map] at this; omega
          have ea := tB_of (f6_EqualAll (cutsL (ptQ x) (a.map lv)) (cutsL (ptQ x) (a.map lv)) (N := 8) (L := 5) (by decide) (by decide) hclen hclen hcut0 hcut0) rfl
          generalize hCU : cutsL (ptQ x) (a.map lv) = CU at *
          generalize rdF a f G k = RF at *
          generalize decide (¬ rdC a f G) = RB at *
          generalize constF n = C1 at *
          generalize constF (n + 1) = C2 at *
          generalize varF w = V1 at *
          generalize notF (intF w n) = NP at *
          generalize intF w n = P1 at *
          generalize hn1 : n + 1 = n1 at *
          obtain ⟨u1, hu1⟩ : ∃ c : Int, c = 1 := ⟨_, rfl⟩
          rw [← hu1] at ad
          have o1 : PCall Tryz.prog 24 [tI .i64 1] (eI u1) := by rw [hu1]; exact o1
          clear hu1 hn hn1 hw
          simp only [go_sem]
          ((repeat (refine regA_by 0 rfl ?_; simp only [go_sem])); refine call_pure (hk) rfl ?_; simp only [go_sem]; (repeat (refine regA_by 0 rfl ?_; simp only [go_sem])); refine call_pure (q1) rfl ?_; simp only [go_sem]; (repeat (refine regA_by 0 rfl ?_; simp only [go_sem])); refine call_pure (q2) rfl ?_; simp only [go_sem]; (repeat (refine regA_by 0 rfl ?_; simp only [go_sem])); refine call_pure (q3) rfl ?_; simp only [go_sem]; (repeat (refine regA_by 0 rfl ?_; simp only [go_sem])); refine call_pure (q4) rfl ?_; simp only [go_sem]; (repeat (refine regA_by 0 rfl ?_; simp only [go_sem])); refine call_pure (ro) rfl ?_; simp only [go_sem]; (repeat (refine regA_by 0 rfl ?_; simp only [go_sem])); refine call_pure (ro2) rfl ?_; simp only [go_sem]; (repeat (refine regA_by 0 rfl ?_; simp only [go_sem])); refine call_pure (br) rfl ?_; simp only [go_sem]; (repeat (refine regA_by 0 rfl ?_; simp only [go_sem])); refine call_pure (fl) rfl ?_; simp only [go_sem]; (repeat (refine regA_by 0 rfl ?_; simp only [go_sem])); refine call_pure (va) rfl ?_; simp only [go_sem]; (repeat (refine regA_by 0 rfl ?_; simp only [go_sem])); refine call_pure (cn) rfl ?_; simp only [go_sem]; (repeat (refine regA_by 0 rfl ?_; simp only [go_sem])); refine call_pure (su) rfl ?_; simp only [go_sem]; (repeat (refine regA_by 0 rfl ?_; simp only [go_sem])); refine call_pure (o1) rfl ?_; simp only [go_sem]; (repeat (refine regA_by 0 rfl ?_; simp only [go_sem])); refine call_pure (ad) rfl ?_; simp only [go_sem]; (repeat (refine regA_by 0 rfl ?_; simp only [go_sem])); refine call_pure (cm) rfl ?_; simp only [go_sem]; (repeat (refine regA_by 0 rfl ?_; simp only [go_sem])); refine call_pure (va) rfl ?_; simp only [go_sem]; (repeat (refine regA_by 0 rfl ?_; simp only [go_sem])); refine call_pure (sv) rfl ?_; simp only [go_sem]; (repeat (refine regA_by 0 rfl ?_; simp only [go_sem])))
          refine loop_inv (fun i : Nat => stL 150 [(0, .one (.t (eL cL a))), (2, aLQ x), (11, .one (.ptr 11 0)), (12, litB RB), (13, .one (.ptr 13 0)), (14, litB RB), (15, .one (.ptr 15 0)), (16, .one (.ptr 16 0)), (18, .one (.ptr 18 0)), (19, .one (.ptr 19 0)), (20, .one (accC 1000 3 (cutsL (ptQ x) ((a.map lv).take i)))), (21, litI .i64 i)]
            (accE 1000 cF (cutsL (ptQ x) ((a.map lv).take i)) ++ [(11, (cF RF).map .t), (13, (cF RF).map .t), (15, (cF P1).map .t), (16, (cF NP).map .t), (18, (cF P1).map .t), (19, (cF NP).map .t)])) (fun i => i ≤ a.length) (fun i => a.length - i) 0 ?_ (Nat.zero_le _) ?_
          · rw [List.take_zero, show cutsL (ptQ x) [] = [] from rfl]
            (refine gstep_list rfl ?_ ?_ ?_ ?_ <;> (try simp only [go_sem, tail_one]) <;> (try simp))
          · intro i hi
            simp only [go_sem]
            refine CondR_if (fun hlt => ?_) (fun hge => ?_)
            · have hlt' : i < a.length := by omega
              have hel : elemD cL a i = cL a[i] := elemD_lt hlt'
              have hb := Bd_lv (hA _ (List.getElem_mem hlt'))
              have hnm := f6_Norm a[i] (by omega) (by omega) (hA _ (List.getElem_mem hlt'))
              have hw := WF_norm (WF_lv a[i])
              have hbn := Bd_norm hb
              have hout := hcut i
              have hol := cutsL_len (ptQ x) (a.map lv) i
              have hnx : cutsL (ptQ x) ((a.map lv).take (i + 1)) = cutsF (ptQ x) (cutsL (ptQ x) ((a.map lv).take i)) (lv a[i]) := by
                rw [take_snoc (by rw [List.length_map]; exact hlt'), cutsL_snoc, List.getElem_map]
              have hat := f6_AtRat (encL (normF (lv a[i]))) x (N := 8) (L := 5) (K := 3) (by decide) (by decide) (by decide) (by decide) (by decide) (BL_enc hbn) (by have := c3.2; omega) c3.1
              rw [gL_encL, lv_enc hw] at hat
              have lat : lQ (atQ (normF (lv a[i])) (ptQ x)) < 4000 := by
                have := lQ_atQ (L := 5) (by decide) hbn (fun v => lQ_ptQ (K := 3) (by decide) c3.1 v) 8
                rw [List.take_of_length_le hbn.1] at this
                unfold atQ; omega
              unfold cutsF at hnx
              generalize a[i] = l at *
              generalize lv l = ff at *
              generalize cutsL (ptQ x) ((a.map lv).take i) = out at *
              generalize atQ (normF ff) (ptQ x) = va2 at *
              generalize hnf : normF ff = c at *
              generalize clF ff = cl at *
              have hsg := r_SignRat_e va2 lat
              simp only [go_sem, hel, hlt]
              (repeat (refine And.intro (by omega) ?_))
              ((repeat (refine regA_by 0 rfl ?_; simp only [go_sem, hel, hlt])); refine call_pure (hnm) rfl ?_; simp only [go_sem, hel, hlt]; (repeat (refine regA_by 0 rfl ?_; simp only [go_sem, hel, hlt])))
              refine loop_inv (fun k : Nat => stL 150 [(0, .one (.t (eL cL a))), (2, aLQ x), (11, .one (.ptr 11 0)), (12, litB RB), (13, .one (.ptr 13 0)), (14, litB RB), (15, .one (.ptr 15 0)), (16, .one (.ptr 16 0)), (18, .one (.ptr 18 0)), (19, .one (.ptr 19 0)), (20, .one (accC 1000 3 out)), (21, litI .i64 i),
                  (22, .one (.ptr 22 0)), (23, litI .i64 cl), (24, litB ((out.take k).any fun o => decide (o = c))), (25, litI .i64 k)]
                (accE 1000 cF out ++ [(11, (cF RF).map .t), (13, (cF RF).map .t), (15, (cF P1).map .t), (16, (cF NP).map .t), (18, (cF P1).map .t), (19, (cF NP).map .t), (22, (cF c).map .t)])) (fun k => k ≤ out.length) (fun k => out.length - k) 0 ?_ (Nat.zero_le _) ?_
              · rw [List.take_zero, List.any_nil]
                (refine gstep_list rfl ?_ ?_ ?_ ?_ <;> (try simp only [go_sem, tail_one]) <;> (try simp))
              · intro k hk
                simp only [go_sem]
                refine CondR_if (fun hlk => ?_) (fun hgk => ?_)
                · have hlk' : k < out.length := by omega
                  have hne : out ≠ [] := by intro e; rw [e] at hlk'; cases hlk'
                  have hacc := acc_ne (b := 1000) (sz := 3) hne
                  have hcH : ∀ o, accH cF out o = some (cellsL cF out) := fun o => accH_ne hne
                  have hie : out.isEmpty = false := by cases out with | nil => exact (hne rfl).elim | cons _ _ => rfl
                  have hel2 : (cellsL cF out).drop (k * 3) = (cF out[k]).map .t ++ cellsL cF (out.drop (k + 1)) := cellsL_at cF_len hlk'
                  have hcl2 : (cellsL cF out).length = out.length * 3 := cellsL_length cF_len
                  have heq := f6_Equal out[k] c (by decide) (by decide) (hout _ (List.getElem_mem hlk')).2 hbn
                  have hany : (out.take (k + 1)).any (fun o => decide (o = c)) = (((out.take k).any fun o => decide (o = c)) || decide (out[k] = c)) := by
                    rw [take_snoc hlk', List.any_append, List.any_cons, List.any_nil, Bool.or_false]
                  generalize out[k] = o at *
                  generalize hbo : (out.take k).any (fun o => decide (o = c)) = bo at *
                  generalize decide (o = c) = bo2 at *
                  refine regA_by 0 rfl ?_
                  cases bo with
                  | true =>
                    rw [Bool.true_or] at hany
                    simp only [go_sem]
                    refine ⟨k + 1, hlk', (by show out.length - (k + 1) < out.length - k; omega), ?_⟩
                    (refine gstep_list rfl ?_ ?_ ?_ ?_ <;> (try simp only [go_sem, tail_one, hany, wrap_i64 (n := (k : Int) + 1) (by omega) (by omega)]) <;> (try simp))
                  | false =>
                    rw [Bool.false_or] at hany
                    simp only [go_sem, hacc, hcH, hel2, hlk]
                    (repeat (refine And.intro (by omega) ?_))
                    refine call_pure heq rfl ?_
                    simp only [go_sem]
                    refine ⟨k + 1, hlk', (by show out.length - (k + 1) < out.length - k; omega), ?_⟩
                    (refine gstep_list rfl ?_ ?_ ?_ ?_ <;> (try simp only [go_sem, tail_one, hany, hacc, hcH, hie, wrap_i64 (n := (k : Int) + 1) (by omega) (by omega)]) <;> (try simp))
                · obtain rfl : k = out.length := by omega
                  rw [List.take_length]
                  generalize htw : (out.any fun o => decide (o = c)) = tw at *
                  have hskip : (¬ (cl = 1 ∧ ¬ tw = true ∧ 0 < va2)) → cutsL (ptQ x) ((a.map lv).take (i + 1)) = out := fun h => by rw [hnx, if_neg h]
                  by_cases h1 : cl = 1
                  · have h1' : (cl = 1) = True := eq_true h1
                    cases tw with
                    | true =>
                      have hnx := hskip (fun h => h.2.1 rfl)
                      simp only [go_sem, h1']
                      refine ⟨i + 1, hlt', (by show a.length - (i + 1) < a.length - i; omega), ?_⟩
                      (refine gstep_list rfl ?_ ?_ ?_ ?_ <;> (try simp only [go_sem, tail_one, hnx, wrap_i64 (n := (i : Int) + 1) (by omega) (by omega)]) <;> (try simp))
                    | false =>
                      simp only [go_sem, h1']
                      refine call_pure hat rfl ?_
                      simp only [go_sem]
                      refine call_pure hsg rfl ?_
                      have hvs : 0 < va2 ↔ 0 < va2.num.sign := by rw [Int.sign_pos_iff, numPos]
                      by_cases hs : 0 < va2
                      · have hs' : (0 < va2.num.sign) = True := eq_true (hvs.1 hs)
                        rw [if_pos ⟨h1, by simp, hs⟩] at hnx
                        simp only [go_sem, hs']
                        refine opA_app_acc (sz := 3) (bytes := 56) (by simp only [go_sem, AppTy] <;> decide) cF_len out [c] (b := 1000) (by simp only [go_sem] <;> rfl) (by simp only [go_sem] <;> rfl) (by simp only [go_sem] <;> rfl) rfl (by simp) (by simp only [List.length_cons, List.length_nil] at *; omega) (by decide) ?_
                        simp only [go_sem]
                        refine ⟨i + 1, hlt', (by show a.length - (i + 1) < a.length - i; omega), ?_⟩
                        (refine gstep_list rfl ?_ ?_ ?_ ?_ <;> (try simp only [go_sem, tail_one, hnx, wrap_i64 (n := (i : Int) + 1) (by omega) (by omega)]) <;> (try simp))
                      · have hs' : (0 < va2.num.sign) = False := eq_false (fun h => hs (hvs.2 h))
                        have hnx := hskip (fun h => hs h.2.2)
                        simp only [go_sem, hs']
                        refine ⟨i + 1, hlt', (by show a.length - (i + 1) < a.length - i; omega), ?_⟩
                        (refine gstep_list rfl ?_ ?_ ?_ ?_ <;> (try simp only [go_sem, tail_one, hnx, wrap_i64 (n := (i : Int) + 1) (by omega) (by omega)]) <;> (try simp))
                  · have h1' : (cl = 1) = False := eq_false h1
                    have hnx := hskip (fun h => h1 h.1)
                    simp only [go_sem, h1']
                    refine ⟨i + 1, hlt', (by show a.length - (i + 1) < a.length - i; omega), ?_⟩
                    (refine gstep_list rfl ?_ ?_ ?_ ?_ <;> (try simp only [go_sem, tail_one, hnx, wrap_i64 (n := (i : Int) + 1) (by omega) (by omega)]) <;> (try simp))
            · obtain rfl : i = a.length := by omega
              rw [List.take_of_length_le (by rw [List.length_map]; exact Nat.le_refl _), hCU]
              clear hCU hcut0 hclen
              cases CU with
              | nil =>
                have ea := ea.tw (tvs' := [.one (eL cF []), .one (.seq (some true) [])]) (.cons .refl1 (.cons (.one .weak) .nil))
                simp only [go_sem, beq_self_eq_true]
                ((repeat (refine regA_by 0 rfl ?_; simp only [go_sem])); refine call_pure (e1) rfl ?_; simp only [go_sem]; (repeat (refine regA_by 0 rfl ?_; simp only [go_sem])); refine call_pure (e2) rfl ?_; simp only [go_sem]; (repeat (refine regA_by 0 rfl ?_; simp only [go_sem])); refine call_pure (e3) rfl ?_; simp only [go_sem]; (repeat (refine regA_by 0 rfl ?_; simp only [go_sem])); refine call_pure (cu) rfl ?_; simp only [go_sem]; (repeat (refine regA_by 0 rfl ?_; simp only [go_sem])); refine call_pure (ea) rfl ?_; simp only [go_sem]; (repeat (refine regA_by 0 rfl ?_; simp only [go_sem])))
              | cons z zs =>
                simp only [go_sem, beq_self_eq_true]
                ((repeat (refine regA_by 0 rfl ?_; simp only [go_sem])); refine call_pure (e1) rfl ?_; simp only [go_sem]; (repeat (refine regA_by 0 rfl ?_; simp only [go_sem])); refine call_pure (e2) rfl ?_; simp only [go_sem]; (repeat (refine regA_by 0 rfl ?_; simp only [go_sem])); refine call_pure (e3) rfl ?_; simp only [go_sem]; (repeat (refine regA_by 0 rfl ?_; simp only [go_sem])); refine call_pure (cu) rfl ?_; simp only [go_sem]; (repeat (refine regA_by 0 rfl ?_; simp only [go_sem])))
                refine call_frz 1000 3 (zs.length + 1) rfl ea (by simp only [go_sem] <;> rfl) (treeOf_L (f := cF) (xs := z :: zs) cF_len) ?_ ?_
                · simp only [go_sem, accC_cons] <;> rfl
                · simp only [go_sem]
                  try rfl
        · have q4 := tB_not q4 c4
          simp only [go_sem]
          ((repeat (refine regA_by 0 rfl ?_; simp only [go_sem])); refine call_pure (hk) rfl ?_; simp only [go_sem]; (repeat (refine regA_by 0 rfl ?_; simp only [go_sem])); refine call_pure (q1) rfl ?_; simp only [go_sem]; (repeat (refine regA_by 0 rfl ?_; simp only [go_sem])); refine call_pure (q2) rfl ?_; simp only [go_sem]; (repeat (refine regA_by 0 rfl ?_; simp only [go_sem])); refine call_pure (q3) rfl ?_; simp only [go_sem]; (repeat (refine regA_by 0 rfl ?_; simp only [go_sem])); refine call_pure (q4) rfl ?_; simp only [go_sem]; (repeat (refine regA_by 0 rfl ?_; simp only [go_sem])))
      · have q3 := tB_not q3 c3
        simp only [go_sem]
        ((repeat (refine regA_by 0 rfl ?_; simp only [go_sem])); refine call_pure (hk) rfl ?_; simp only [go_sem]; (repeat (refine regA_by 0 rfl ?_; simp only [go_sem])); refine call_pure (q1) rfl ?_; simp only [go_sem]; (repeat (refine regA_by 0 rfl ?_; simp only [go_sem])); refine call_pure (q2) rfl ?_; simp only [go_sem]; (repeat (refine regA_by 0 rfl ?_; simp only [go_sem])); refine call_pure (q3) rfl ?_; simp only [go_sem]; (repeat (refine regA_by 0 rfl ?_; simp only [go_sem])))
    · have q2 := tB_not q2 c2
      simp only [go_sem]
      ((repeat (refine regA_by 0 rfl ?_; simp only [go_sem])); refine call_pure (hk) rfl ?_; simp only [go_sem]; (repeat (refine regA_by 0 rfl ?_; simp only [go_sem])); refine call_pure (q1) rfl ?_; simp only [go_sem]; (repeat (refine regA_by 0 rfl ?_; simp only [go_sem])); refine call_pure (q2) rfl ?_; simp only [go_sem]; (repeat (refine regA_by 0 rfl ?_; simp only [go_sem])))
  · have q1 := tB_not q1 c1
    simp only [go_sem]
    ((repeat (refine regA_by 0 rfl ?_; simp only [go_sem])); refine call_pure (hk) rfl ?_; simp only [go_sem]; (repeat (refine regA_by 0 rfl ?_; simp only [go_sem])); refine call_pure (q1) rfl ?_; simp only [go_sem]; (repeat (refine regA_by 0 rfl ?_; simp only [go_sem])))
end Go.Proofs.YtfgejnedaijjiaaGreat
namespace Go.Proofs.YtfgejnedaijjiaaGreat
open Go Go.Abs
set_option maxHeartbeats 32000000
/-! ### Points: what is rounded is kept to where all are -/
/-- A form's value as a sum over its variables. -/
theorem atM_sum {l : List Mn} {n k : Nat} (w : WM n l) (hl : ∀ m ∈ l, m.1 < k) (p : Nat → Int) : ((atM l p : Int) : Rat) = smQ (fun v => (coM l v : Rat) * (p v : Rat)) k := by
  induction l generalizing n with
  | nil => rw [smQ_zero fun i _ => by show ((0 : Int) : Rat) * _ = 0; exact Rat.zero_mul _]; rfl
  | cons m l ih =>
    have hm := hl m (List.mem_cons_self ..)
    have h1 := ih w.2.2 (fun x hx => hl x (List.mem_cons_of_mem _ hx))
    show ((m.2 * p m.1 + atM l p : Int) : Rat) = _
    rw [Rat.intCast_add, Rat.intCast_mul, h1]
    have h2 : smQ (fun v => (coM (m :: l) v : Rat) * (p v : Rat)) k = smQ (fun v => (if v = m.1 then (m.2 : Rat) * (p v : Rat) else 0) + (coM l v : Rat) * (p v : Rat)) k := smQ_congr fun v _ => by
      show (((if m.1 = v then m.2 else coM l v : Int)) : Rat) * _ = _
      by_cases e : m.1 = v
      · subst e
        rw [if_pos rfl, if_pos rfl, coM_low w.2.2 (Nat.lt_succ_self _)]
        have : ((0 : Int) : Rat) = 0 := rfl
        grind
      · rw [if_neg e, if_neg (fun h => e h.symm)]; grind
    rw [h2, smQ_add, smQ_single (c := m.1) hm fun j _ hj => if_neg hj, if_pos rfl]
/-- The sum of forms at a point. -/
theorem sum_at {ls : List Fm} {q : List Rat} {n : Nat} (hw : ∀ f ∈ ls, WF f) (hn : ∀ f ∈ ls, lastV f ≤ n) (p : Nat → Int) : ∀ i, i ≤ ls.length →
    kS ls q i + smQ (fun v => cS ls q i v * (p v : Rat)) n = smQ (fun j => q.getD j 0 * ((atF (ls.getD j ([], 0)) p : Int) : Rat)) i
  | 0, _ => by
    show (0 : Rat) + smQ (fun v => (0 : Rat) * (p v : Rat)) n = 0
    rw [smQ_zero fun _ _ => Rat.zero_mul _]; grind
  | i + 1, hi => by
    have ih := sum_at hw hn p (q := q) i (by omega)
    have hm : ls.getD i ([], 0) ∈ ls := by
      rw [List.getD_eq_getElem?_getD, List.getElem?_eq_getElem (by omega)]; exact List.getElem_mem _
    have h1 := atM_sum (hw _ hm) (fun m hm2 => Nat.lt_of_lt_of_le (lastV_lt (hw _ hm) m hm2) (hn _ hm)) p
    show kS ls q i + ((ls.getD i ([], 0)).2 : Rat) * q.getD i 0 + smQ (fun v => (cS ls q i v + (coM (ls.getD i ([], 0)).1 v : Rat) * q.getD i 0) * (p v : Rat)) n = smQ _ i + q.getD i 0 * _
    generalize ls.getD i ([], 0) = f at *
    generalize q.getD i 0 = y at *
    have h2 : smQ (fun v => (cS ls q i v + (coM f.1 v : Rat) * y) * (p v : Rat)) n = smQ (fun v => cS ls q i v * (p v : Rat)) n + y * smQ (fun v => (coM f.1 v : Rat) * (p v : Rat)) n := by
      rw [← smQ_mul, ← smQ_add]
      exact smQ_congr fun v _ => by grind
    have h3 : ((atF f p : Int) : Rat) = (f.2 : Rat) + ((atM f.1 p : Int) : Rat) := by
      show ((f.2 + atM f.1 p : Int) : Rat) = _; rw [Rat.intCast_add]
    rw [h2, h3, h1, ← ih]; grind
theorem atM_snocI (l : List Mn) (m : Mn) (p : Nat → Int) : atM (l ++ [m]) p = atM l p + m.2 * p m.1 := by
  induction l with
  | nil => show m.2 * p m.1 + 0 = 0 + m.2 * p m.1; omega
  | cons x l ih => show x.2 * p x.1 + atM (l ++ [m]) p = x.2 * p x.1 + atM l p + _; rw [ih]; omega
theorem at_rdM {G : List Rat} (hG : ∀ g ∈ G, g.den = 1) (p : Nat → Int) : ∀ j, j ≤ G.length → ((atM (rdM G j) p : Int) : Rat) = smQ (fun v => G.getD v 0 * (p v : Rat)) j
  | 0, _ => rfl
  | j + 1, hj => by
    have ih := at_rdM hG p j (by omega)
    have hg : G.getD j 0 ∈ G := by
      rw [List.getD_eq_getElem?_getD, List.getElem?_eq_getElem (by omega)]; exact List.getElem_mem _
    have hnum : ((G.getD j 0).num : Rat) = G.getD j 0 := by
      have h1 := hG _ hg
      generalize G.getD j 0 = g at *
      have := Rat.num_divInt_den g
      rw [h1] at this
      rw [Rat.divInt_eq_div] at this
      have e : ((1 : Nat) : Int) = 1 := rfl
      rw [e] at this
      have e : ((1 : Int) : Rat) = 1 := rfl
      rw [e] at this
      grind
    show ((atM (if (G.getD j 0).num = 0 then rdM G j else rdM G j ++ [(j, (G.getD j 0).num)]) p : Int) : Rat) = smQ _ j + G.getD j 0 * (p j : Rat)
    rw [← ih]
    split
    · rename_i h0
      rw [h0] at hnum
      have e : ((0 : Int) : Rat) = 0 := rfl
      rw [e] at hnum
      rw [← hnum]; grind
    · rw [atM_snocI, Rat.intCast_add, Rat.intCast_mul, hnum]
/-- Where all hold, the rounded sum does. -/
theorem round_holds {a : List LL} {x : List QQ} {G : List Rat} {k : Rat} (hG : G = fnL (nV (a.map lv)) (cS (a.map lv) (x.map qQ) (min a.length x.length))) (hk : k = kS (a.map lv) (x.map qQ) (min a.length x.length)) (hn : ¬ rdC a x G) (p : Nat → Int)
    (hp : ∀ l ∈ a, atF (lv l) p ≤ 0) : atF (rdF a x G k) p ≤ 0 := by
  have hden : ∀ g ∈ G, g.den = 1 := fun g hg => Classical.byContradiction fun h => hn (.inr ⟨g, hg, h⟩)
  have hneg : ∀ q ∈ x.take (min a.length x.length), 0 ≤ qQ q := fun q hq => Rat.not_lt.1 fun h => hn (.inl ⟨q, hq, h⟩)
  have e : rdF a x G k = (rdM G G.length, -(-k).floor) := if_neg hn
  rw [e]
  have h1 := at_rdM hden p G.length (Nat.le_refl _)
  have hsum := sum_at (ls := a.map lv) (q := x.map qQ) (n := nV (a.map lv)) (fun f hf => by obtain ⟨l, _, rfl⟩ := List.mem_map.1 hf; exact WF_lv l) (fun f hf => nV_ge hf) p (min a.length x.length) (by rw [List.length_map]; omega)
  have h2 : smQ (fun v => G.getD v 0 * (p v : Rat)) G.length = smQ (fun v => cS (a.map lv) (x.map qQ) (min a.length x.length) v * (p v : Rat)) (nV (a.map lv)) := by
    rw [hG, fnL_len]
    refine smQ_congr fun v hv => ?_
    rw [List.getD_eq_getElem?_getD, List.getElem?_eq_getElem (by rw [fnL_len]; exact hv), Option.getD_some, fnL_get]
  rw [h2] at h1
  rw [← h1, ← hk] at hsum
  have h3 : smQ (fun j => (x.map qQ).getD j 0 * ((atF ((a.map lv).getD j ([], 0)) p : Int) : Rat)) (min a.length x.length) ≤ 0 := by
    have : 0 ≤ smQ (fun j => -((x.map qQ).getD j 0 * ((atF ((a.map lv).getD j ([], 0)) p : Int) : Rat))) (min a.length x.length) := smQ_nonneg fun j hj => by
      have hj1 : j < a.length := by omega
      have hj2 : j < x.length := by omega
      have e1 : (a.map lv).getD j ([], 0) = lv a[j] := by rw [List.getD_eq_getElem?_getD, List.getElem?_map, List.getElem?_eq_getElem hj1]; rfl
      have e2 : (x.map qQ).getD j 0 = qQ x[j] := by rw [List.getD_eq_getElem?_getD, List.getElem?_map, List.getElem?_eq_getElem hj2]; rfl
      rw [e1, e2]
      have h4 := hp _ (List.getElem_mem hj1)
      have h5 := hneg x[j] (List.mem_iff_getElem.2 ⟨j, by rw [List.length_take]; omega, by simp⟩)
      have h6 : ((atF (lv a[j]) p : Int) : Rat) ≤ 0 := by
        have : ((atF (lv a[j]) p : Int) : Rat) ≤ ((0 : Int) : Rat) := Rat.intCast_le_intCast.2 h4
        exact this
      have h7 := Rat.mul_nonneg h5 (b := -((atF (lv a[j]) p : Int) : Rat)) (by grind)
      grind
    have e3 : smQ (fun j => -((x.map qQ).getD j 0 * ((atF ((a.map lv).getD j ([], 0)) p : Int) : Rat))) (min a.length x.length) = -1 * smQ (fun j => (x.map qQ).getD j 0 * ((atF ((a.map lv).getD j ([], 0)) p : Int) : Rat)) (min a.length x.length) := by
      rw [← smQ_mul]; exact smQ_congr fun j _ => by grind
    rw [e3] at this; grind
  have h4 : ((atM (rdM G G.length) p : Int) : Rat) ≤ -k := by rw [hsum.symm] at h3; grind
  have h5 : atM (rdM G G.length) p ≤ (-k).floor := Rat.le_floor_iff.2 h4
  show -(-k).floor + atM (rdM G G.length) p ≤ 0
  omega
theorem cuts_hold {a : List LL} {q : Nat → Rat} {p : Nat → Int} (hp : ∀ l ∈ a, atF (lv l) p ≤ 0) : ∀ f ∈ cutsL q (a.map lv), atF f p ≤ 0 := by
  intro f hf
  obtain ⟨g, hg, rfl⟩ := cutsL_mem (ls := a.map lv) (a.map lv).length f (by rw [List.take_of_length_le (Nat.le_refl _)]; exact hf)
  obtain ⟨l, hl, rfl⟩ := List.mem_map.1 hg
  exact (norm_holds (WF_lv l) p).2 (hp l hl)
end Go.Proofs.YtfgejnedaijjiaaGreat
namespace Go.Proofs.YtfgejnedaijjiaaGreat
open Go Go.Abs
set_option maxHeartbeats 32000000
theorem cL_enc (f : Fm) : cL (encL f) = cF f := by
  show [eL cM (f.1.map eMn), _, _] = _; rw [eL_eMn]; rfl
theorem eL_encs (fs : List Fm) : eL cL (fs.map encL) = eL cF fs := by
  unfold eL; rw [List.map_map]; congr 1; exact List.map_congr_left fun f _ => cL_enc f
theorem f6_All_e (fs : List Fm) (x : List (Bool × List Nat)) {N L K : Nat} (hN : N ≤ 1000000) (hL : L ≤ 900000) (hK : K ≤ 900000) (hls : fs.length < 1000000000) (hw : ∀ f ∈ fs, WF f) (hl : ∀ f ∈ fs, Bd N L f) (hx : x.length < 1000000000) (hxk : ∀ q ∈ x, q.2.length ≤ K) :
    PCall Tryz.prog 47 [.one (eL cF fs), tLI x] (tB (decide (∀ f ∈ fs, atF f (ptX x) ≤ 0))) := by
  have h := f6_All (fs.map encL) x hN hL hK (by rw [List.length_map]; exact hls) (fun l hl2 => by obtain ⟨f, hf, rfl⟩ := List.mem_map.1 hl2; exact BL_enc (hl f hf)) hx hxk
  rw [eL_encs] at h
  refine tB_iffB h ⟨fun h f hf => ?_, fun h l hl2 => ?_⟩
  · have := h (encL f) (List.mem_map.2 ⟨f, hf, rfl⟩)
    rwa [lv_enc (hw f hf)] at this
  · obtain ⟨f, hf, rfl⟩ := List.mem_map.1 hl2
    rw [lv_enc (hw f hf)]; exact h f hf
theorem f6_Holds_e (f : Fm) (x : List (Bool × List Nat)) {N L K : Nat} (hN : N ≤ 1000000) (hL : L ≤ 900000) (hK : K ≤ 900000) (hw : WF f) (hl : Bd N L f) (hx : x.length < 1000000000) (hxk : ∀ q ∈ x, q.2.length ≤ K) :
    PCall Tryz.prog 46 [eF f, tLI x] (tB (decide (atF f (ptX x) ≤ 0))) := by
  have h := f6_Holds (encL f) x hN hL hK (BL_enc hl) hx hxk
  rwa [gL_encL, lv_enc hw] at h
set_option maxRecDepth 100000 in
theorem p_CutValid (a : List LL) (ja : a.length ≤ maxLen) (ka : ∀ l ∈ a, LLok l) (f : List QQ) (jf : f.length ≤ maxLen) (x : List QQ) (jx : x.length ≤ maxLen) (p : List (Bool × List Nat)) (jp : p.length ≤ maxLen) (v : Int) (v1 : 0 ≤ v) (v2 : v < 256) (r1 : Bool) (r2 r3 : List Nat) :
    PCall Tryz.prog 9 [.one (eL cL a), tLQ f, tLQ x, tLI p, tI .u8 v, .agg [.lit (.bool r1), eN r2, eN r3]] (tB true) := by
  have hk := known21
  have q1 := fewLins21 a ja ka
  have q2 := fewRats21 f jf
  have q3 := fewRats21 x jx
  have q4 := fewPoint21 p jp
  have q5 := (fewRats21 [(r1, r2, r3)] (by simp; decide)).tw (tvs' := [.one (.seq (some false) [[.lit (.bool r1), eN r2, eN r3]])]) (.cons (.one .weak) .nil)
  refine pcall_of_wpA mixed Tryz.call9 Tryz.func9 rfl Tryz.ntmps9 Tryz.results9 (by simp) (by decide) ?_
  by_cases c1 : FLs a
  · have q1 := tB_of q1 c1
    by_cases c2 : FR f
    · have q2 := tB_of q2 c2
      by_cases c3 : FR x
      · have q3 := tB_of q3 c3
        by_cases c4 : FP p
        · have q4 := tB_of q4 c4
          by_cases c5 : FR [(r1, r2, r3)]
          · have q5 := tB_of q5 c5
            have hA := c1.bl ka
            have hal := c1.2
            have hpl := c4.2
            have hr : r2.length ≤ 3 ∧ r3.length ≤ 3 := c5.1 _ (List.mem_singleton.2 rfl)
            obtain ⟨w, hw, hw2⟩ : ∃ w : Nat, Int.tmod v 12 = (w : Int) ∧ w < 12 := ⟨(v % 12).toNat, by rw [Int.tmod_eq_emod_of_nonneg v1]; omega, by omega⟩
            obtain ⟨G, k, hG, hkk, ro, _, wR, bR⟩ := round_both a f (A := 10) (N := 8) (L := 4) (K := 3) (V := 101) c1.2 (by decide) (by have := c2.2; omega) (by decide) (by decide) (by decide) (by decide) (by decide) hA c1.lastV (by decide) c2.1
            have br := c_Branch (w : Int) (r1, r2, r3) (K := 3) (by omega) (by omega) (by decide) (by decide) hr.1 hr.2 _ rfl
            have ln : lN (qv r1 r2 r3).floor ≤ 10 := by
              have h1 := lN_floor (qv r1 r2 r3)
              have h2 := lQ_num (qv r1 r2 r3)
              have h3 := lQ_qv r1 r2 r3
              omega
            rw [branch_form, Int.toNat_natCast] at br
            unfold qQ at br
            generalize hn : (qv r1 r2 r3).floor = n at *
            have bP : Bd 1 10 (intF w n) := Bd_intF (by omega) (by decide) ln
            have bN := Bd_not (by decide) bP
            have h1 := f6_Holds_e (intF w n) p (K := 4) (by decide) (by decide) (by decide) (WF_intF w n) bP (by omega) c4.1
            have h2 := f6_Holds_e (notF (intF w n)) p (K := 4) (by decide) (by decide) (by decide) (WF_not (WF_intF w n)) bN (by omega) c4.1
            have h2 := tB_iffB h2 (q := ¬ atF (intF w n) (ptX p) ≤ 0) (by rw [at_not]; omega)
            have h3 := f6_All a p (N := 8) (L := 4) (K := 4) (by decide) (by decide) (by decide) (by omega) hA (by omega) c4.1
            have h4 := f6_Holds_e (rdF a f G k) p (K := 4) (by decide) (by decide) (by decide) wR bR (by omega) c4.1
            have cu := c_Cuts a x (N := 8) (L := 4) (K := 3) (by omega) (by have := c3.2; omega) (by decide) (by decide) (by decide) (by decide) (by decide) hA c3.1
            have hcut : ∀ o ∈ cutsL (ptQ x) (a.map lv), WF o ∧ Bd 8 5 o := fun o ho => by
              obtain ⟨f, hf, rfl⟩ := cutsL_mem (a.map lv).length o (by rw [List.take_of_length_le (Nat.le_refl _)]; exact ho)
              obtain ⟨l, hl, rfl⟩ := List.mem_map.1 hf
              exact ⟨WF_norm (WF_lv l), Bd_norm (Bd_lv (hA l hl))⟩
            have hclen : (cutsL (ptQ x) (a.map lv)).length < 1000000000 := by
              have := cutsL_len (ptQ x) (a.map lv) (a.map lv).length
              rw [List.take_of_length_le (Nat.le_refl _), List.length_map] at this; omega
            have h5 := f6_All_e (cutsL (ptQ x) (a.map lv)) p (N := 8) (L := 5) (K := 4) (by decide) (by decide) (by decide) hclen (fun o ho => (hcut o ho).1) (fun o ho => (hcut o ho).2) (by omega) c4.1
            have hRd : ¬ rdC a f G → (∀ l ∈ a, atF (lv l) (ptX p) ≤ 0) → atF (rdF a f G k) (ptX p) ≤ 0 := fun h1 h2 => round_holds hG hkk h1 (ptX p) h2
            have hCt : (∀ l ∈ a, atF (lv l) (ptX p) ≤ 0) → ∀ f ∈ cutsL (ptQ x) (a.map lv), atF f (ptX p) ≤ 0 := fun h => cuts_hold h
            obtain ⟨b, g1, g2⟩ : ∃ b, PCall Tryz.prog 46 [eF (intF w n), tLI p] (tB b) ∧ PCall Tryz.prog 46 [eF (notF (intF w n)), tLI p] (tB (!b)) := ⟨_, h1, by rw [decide_not] at h2; exact h2⟩
            clear h1 h2 bN bP hn
            have hbn : (b == !b) = false := by cases b <;> rfl
            have hw3 : IntKind.i64.wrap (w : Int) = (w : Int) := wrap_i64 (by omega) (by omega)
            generalize notF (intF w n) = NP at *
            generalize intF w n = P1 at *
            by_cases d1 : ∀ l ∈ a, atF (lv l) (ptX p) ≤ 0
            · have h3 := tB_of h3 d1
              have h5 := tB_of h5 (hCt d1)
              by_cases rc : rdC a f G
              · rw [decide_eq_false (fun h => h rc)] at ro
                generalize cutsL (ptQ x) (a.map lv) = CU at *
                generalize rdF a f G k = RF at *
                clear hRd hCt hG hkk hcut hclen
                simp only [go_sem]
                ((repeat (refine regA_by 0 rfl ?_; simp only [go_sem, hw, hw3, hbn])); refine call_pure (hk) rfl ?_; simp only [go_sem, hw, hw3, hbn]; (repeat (refine regA_by 0 rfl ?_; simp only [go_sem, hw, hw3, hbn])); refine call_pure (q1) rfl ?_; simp only [go_sem, hw, hw3, hbn]; (repeat (refine regA_by 0 rfl ?_; simp only [go_sem, hw, hw3, hbn])); refine call_pure (q2) rfl ?_; simp only [go_sem, hw, hw3, hbn]; (repeat (refine regA_by 0 rfl ?_; simp only [go_sem, hw, hw3, hbn])); refine call_pure (q3) rfl ?_; simp only [go_sem, hw, hw3, hbn]; (repeat (refine regA_by 0 rfl ?_; simp only [go_sem, hw, hw3, hbn])); refine call_pure (q4) rfl ?_; simp only [go_sem, hw, hw3, hbn]; (repeat (refine regA_by 0 rfl ?_; simp only [go_sem, hw, hw3, hbn])); refine call_pure (q5) rfl ?_; simp only [go_sem, hw, hw3, hbn]; (repeat (refine regA_by 0 rfl ?_; simp only [go_sem, hw, hw3, hbn])); refine call_pure (br) rfl ?_; simp only [go_sem, hw, hw3, hbn]; (repeat (refine regA_by 0 rfl ?_; simp only [go_sem, hw, hw3, hbn])); refine call_pure (g1) rfl ?_; simp only [go_sem, hw, hw3, hbn]; (repeat (refine regA_by 0 rfl ?_; simp only [go_sem, hw, hw3, hbn])); refine call_pure (g2) rfl ?_; simp only [go_sem, hw, hw3, hbn]; (repeat (refine regA_by 0 rfl ?_; simp only [go_sem, hw, hw3, hbn])); refine call_pure (h3) rfl ?_; simp only [go_sem, hw, hw3, hbn]; (repeat (refine regA_by 0 rfl ?_; simp only [go_sem, hw, hw3, hbn])); refine call_pure (ro) rfl ?_; simp only [go_sem, hw, hw3, hbn]; (repeat (refine regA_by 0 rfl ?_; simp only [go_sem, hw, hw3, hbn])); refine call_pure (cu) rfl ?_; simp only [go_sem, hw, hw3, hbn]; (repeat (refine regA_by 0 rfl ?_; simp only [go_sem, hw, hw3, hbn])); refine call_pure (h5) rfl ?_; simp only [go_sem, hw, hw3, hbn]; (repeat (refine regA_by 0 rfl ?_; simp only [go_sem, hw, hw3, hbn])))
              · have h4 := tB_of h4 (hRd rc d1)
                rw [decide_eq_true rc] at ro
                generalize cutsL (ptQ x) (a.map lv) = CU at *
                generalize rdF a f G k = RF at *
                clear hRd hCt hG hkk hcut hclen
                simp only [go_sem]
                ((repeat (refine regA_by 0 rfl ?_; simp only [go_sem, hw, hw3, hbn])); refine call_pure (hk) rfl ?_; simp only [go_sem, hw, hw3, hbn]; (repeat (refine regA_by 0 rfl ?_; simp only [go_sem, hw, hw3, hbn])); refine call_pure (q1) rfl ?_; simp only [go_sem, hw, hw3, hbn]; (repeat (refine regA_by 0 rfl ?_; simp only [go_sem, hw, hw3, hbn])); refine call_pure (q2) rfl ?_; simp only [go_sem, hw, hw3, hbn]; (repeat (refine regA_by 0 rfl ?_; simp only [go_sem, hw, hw3, hbn])); refine call_pure (q3) rfl ?_; simp only [go_sem, hw, hw3, hbn]; (repeat (refine regA_by 0 rfl ?_; simp only [go_sem, hw, hw3, hbn])); refine call_pure (q4) rfl ?_; simp only [go_sem, hw, hw3, hbn]; (repeat (refine regA_by 0 rfl ?_; simp only [go_sem, hw, hw3, hbn])); refine call_pure (q5) rfl ?_; simp only [go_sem, hw, hw3, hbn]; (repeat (refine regA_by 0 rfl ?_; simp only [go_sem, hw, hw3, hbn])); refine call_pure (br) rfl ?_; simp only [go_sem, hw, hw3, hbn]; (repeat (refine regA_by 0 rfl ?_; simp only [go_sem, hw, hw3, hbn])); refine call_pure (g1) rfl ?_; simp only [go_sem, hw, hw3, hbn]; (repeat (refine regA_by 0 rfl ?_; simp only [go_sem, hw, hw3, hbn])); refine call_pure (g2) rfl ?_; simp only [go_sem, hw, hw3, hbn]; (repeat (refine regA_by 0 rfl ?_; simp only [go_sem, hw, hw3, hbn])); refine call_pure (h3) rfl ?_; simp only [go_sem, hw, hw3, hbn]; (repeat (refine regA_by 0 rfl ?_; simp only [go_sem, hw, hw3, hbn])); refine call_pure (ro) rfl ?_; simp only [go_sem, hw, hw3, hbn]; (repeat (refine regA_by 0 rfl ?_; simp only [go_sem, hw, hw3, hbn])); refine call_pure (h4) rfl ?_; simp only [go_sem, hw, hw3, hbn]; (repeat (refine regA_by 0 rfl ?_; simp only [go_sem, hw, hw3, hbn])); refine call_pure (cu) rfl ?_; simp only [go_sem, hw, hw3, hbn]; (repeat (refine regA_by 0 rfl ?_; simp only [go_sem, hw, hw3, hbn])); refine call_pure (h5) rfl ?_; simp only [go_sem, hw, hw3, hbn]; (repeat (refine regA_by 0 rfl ?_; simp only [go_sem, hw, hw3, hbn])))
            · have h3 := tB_not h3 d1
              clear hRd hCt hG hkk hcut hclen
              simp only [go_sem]
              ((repeat (refine regA_by 0 rfl ?_; simp only [go_sem, hw, hw3, hbn])); refine call_pure (hk) rfl ?_; simp only [go_sem, hw, hw3, hbn]; (repeat (refine regA_by 0 rfl ?_; simp only [go_sem, hw, hw3, hbn])); refine call_pure (q1) rfl ?_; simp only [go_sem, hw, hw3, hbn]; (repeat (refine regA_by 0 rfl ?_; simp only [go_sem, hw, hw3, hbn])); refine call_pure (q2) rfl ?_; simp only [go_sem, hw, hw3, hbn]; (repeat (refine regA_by 0 rfl ?_; simp only [go_sem, hw, hw3, hbn])); refine call_pure (q3) rfl ?_; simp only [go_sem, hw, hw3, hbn]; (repeat (refine regA_by 0 rfl ?_; simp only [go_sem, hw, hw3, hbn])); refine call_pure (q4) rfl ?_; simp only [go_sem, hw, hw3, hbn]; (repeat (refine regA_by 0 rfl ?_; simp only [go_sem, hw, hw3, hbn])); refine call_pure (q5) rfl ?_; simp only [go_sem, hw, hw3, hbn]; (repeat (refine regA_by 0 rfl ?_; simp only [go_sem, hw, hw3, hbn])); refine call_pure (br) rfl ?_; simp only [go_sem, hw, hw3, hbn]; (repeat (refine regA_by 0 rfl ?_; simp only [go_sem, hw, hw3, hbn])); refine call_pure (g1) rfl ?_; simp only [go_sem, hw, hw3, hbn]; (repeat (refine regA_by 0 rfl ?_; simp only [go_sem, hw, hw3, hbn])); refine call_pure (g2) rfl ?_; simp only [go_sem, hw, hw3, hbn]; (repeat (refine regA_by 0 rfl ?_; simp only [go_sem, hw, hw3, hbn])); refine call_pure (h3) rfl ?_; simp only [go_sem, hw, hw3, hbn]; (repeat (refine regA_by 0 rfl ?_; simp only [go_sem, hw, hw3, hbn])))
          · have q5 := tB_not q5 c5
            simp only [go_sem]
            ((repeat (refine regA_by 0 rfl ?_; simp only [go_sem])); refine call_pure (hk) rfl ?_; simp only [go_sem]; (repeat (refine regA_by 0 rfl ?_; simp only [go_sem])); refine call_pure (q1) rfl ?_; simp only [go_sem]; (repeat (refine regA_by 0 rfl ?_; simp only [go_sem])); refine call_pure (q2) rfl ?_; simp only [go_sem]; (repeat (refine regA_by 0 rfl ?_; simp only [go_sem])); refine call_pure (q3) rfl ?_; simp only [go_sem]; (repeat (refine regA_by 0 rfl ?_; simp only [go_sem])); refine call_pure (q4) rfl ?_; simp only [go_sem]; (repeat (refine regA_by 0 rfl ?_; simp only [go_sem])); refine call_pure (q5) rfl ?_; simp only [go_sem]; (repeat (refine regA_by 0 rfl ?_; simp only [go_sem])))
        · have q4 := tB_not q4 c4
          simp only [go_sem]
          ((repeat (refine regA_by 0 rfl ?_; simp only [go_sem])); refine call_pure (hk) rfl ?_; simp only [go_sem]; (repeat (refine regA_by 0 rfl ?_; simp only [go_sem])); refine call_pure (q1) rfl ?_; simp only [go_sem]; (repeat (refine regA_by 0 rfl ?_; simp only [go_sem])); refine call_pure (q2) rfl ?_; simp only [go_sem]; (repeat (refine regA_by 0 rfl ?_; simp only [go_sem])); refine call_pure (q3) rfl ?_; simp only [go_sem]; (repeat (refine regA_by 0 rfl ?_; simp only [go_sem])); refine call_pure (q4) rfl ?_; simp only [go_sem]; (repeat (refine regA_by 0 rfl ?_; simp only [go_sem])))
      · have q3 := tB_not q3 c3
        simp only [go_sem]
        ((repeat (refine regA_by 0 rfl ?_; simp only [go_sem])); refine call_pure (hk) rfl ?_; simp only [go_sem]; (repeat (refine regA_by 0 rfl ?_; simp only [go_sem])); refine call_pure (q1) rfl ?_; simp only [go_sem]; (repeat (refine regA_by 0 rfl ?_; simp only [go_sem])); refine call_pure (q2) rfl ?_; simp only [go_sem]; (repeat (refine regA_by 0 rfl ?_; simp only [go_sem])); refine call_pure (q3) rfl ?_; simp only [go_sem]; (repeat (refine regA_by 0 rfl ?_; simp only [go_sem])))
    · have q2 := tB_not q2 c2
      simp only [go_sem]
      ((repeat (refine regA_by 0 rfl ?_; simp only [go_sem])); refine call_pure (hk) rfl ?_; simp only [go_sem]; (repeat (refine regA_by 0 rfl ?_; simp only [go_sem])); refine call_pure (q1) rfl ?_; simp only [go_sem]; (repeat (refine regA_by 0 rfl ?_; simp only [go_sem])); refine call_pure (q2) rfl ?_; simp only [go_sem]; (repeat (refine regA_by 0 rfl ?_; simp only [go_sem])))
  · have q1 := tB_not q1 c1
    simp only [go_sem]
    ((repeat (refine regA_by 0 rfl ?_; simp only [go_sem])); refine call_pure (hk) rfl ?_; simp only [go_sem]; (repeat (refine regA_by 0 rfl ?_; simp only [go_sem])); refine call_pure (q1) rfl ?_; simp only [go_sem]; (repeat (refine regA_by 0 rfl ?_; simp only [go_sem])))
end Go.Proofs.YtfgejnedaijjiaaGreat
namespace Go.Proofs.YtfgejnedaijjiaaGreat
open Go Go.Abs
set_option maxHeartbeats 32000000
/-- What a new slice of fractions holds, told so far. -/
def cZ0 (q : Option Rat) : List T := match q with | some x => cR x | none => [.lit (.bool false), .seq (some true) [], .seq (some true) []]
theorem cZ0_len (q : Option Rat) : (cZ0 q).length = 3 := by cases q <;> rfl
theorem cZ0_repl (n : Nat) : repl n z3 = cellsL cZ0 (List.replicate n none) := cellsL_repl (f := cZ0) (x := none)
theorem set_last {α : Type} (w : Nat) (x y : α) : (List.replicate (w + 1) x).set w y = List.replicate w x ++ [y] := by
  rw [List.replicate_succ', List.set_append, if_neg (by simp)]; simp
theorem cZ0_set (w : Nat) (q : Rat) : (cellsL cZ0 (List.replicate (w + 1) none)).take (w * 3) ++ C.t (.lit (.bool (decide (q.num < 0)))) :: C.t (eN (dig q.num.natAbs)) :: C.t (eN (dig q.den)) :: (cellsL cZ0 (List.replicate (w + 1) none)).drop (w * 3 + 3) = cellsL cZ0 (List.replicate w none ++ [some q]) := by
  have := cellsL_set (f := cZ0) (sz := 3) cZ0_len (xs := List.replicate (w + 1) none) (i := w) (by simp) (y := some q)
  rw [set_last] at this
  rw [← this]; simp [setCs, cZ0, cR]
theorem twz (q : Rat) : ∀ n, TWss ((List.replicate n none ++ [some q]).map cZ0) ((List.replicate n (false, [], []) ++ [rawQ q]).map cQ)
  | 0 => .cons TWs.refl .nil
  | n + 1 => .cons (.cons .refl (.cons .weak (.cons .weak .nil))) (twz q n)
theorem ptQ_last (w : Nat) (q : Rat) : ptQ (List.replicate w (false, [], []) ++ [rawQ q]) w = q := by
  unfold ptQ
  rw [List.getElem?_append_right (by simp)]
  simp only [List.length_replicate, Nat.sub_self, List.getElem?_cons_zero]
  exact qQ_raw q
set_option maxRecDepth 100000 in
theorem p_CutHalves (k : Int) (k1 : -32768 ≤ k) (k2 : k < 32768) (v : Int) (v1 : 0 ≤ v) (v2 : v < 256) : PCall Tryz.prog 10 [tI .i16 k, tI .u8 v] (tB true) := by
  have hk := known21
  refine pcall_of_wpA mixed Tryz.call10 Tryz.func10 rfl Tryz.ntmps10 Tryz.results10 (by simp) (by decide) ?_
  obtain ⟨w, hw, hw2⟩ : ∃ w : Nat, Int.tmod v 5 = (w : Int) ∧ w < 5 := ⟨(v % 5).toNat, by rw [Int.tmod_eq_emod_of_nonneg v1]; omega, by omega⟩
  have hw3 : IntKind.i64.wrap (w : Int) = (w : Int) := wrap_i64 (by omega) (by omega)
  obtain ⟨n, hn⟩ : ∃ n, n = w + 1 := ⟨_, rfl⟩
  have hw4 : IntKind.i64.wrap ((w : Int) + 1) = (n : Int) := by rw [wrap_i64 (by omega) (by omega)]; omega
  have hk1 : IntKind.i64.wrap k = k := wrap_i64 (by omega) (by omega)
  have hk2 : IntKind.i64.wrap (2 * k) = 2 * k := wrap_i64 (by omega) (by omega)
  have hk3 : IntKind.i64.wrap (2 * k + 1) = 2 * k + 1 := wrap_i64 (by omega) (by omega)
  have va : PCall Tryz.prog 28 [tI .i64 (w : Int)] (eF (varF w)) := by have := f6_Var (w : Int) (by omega) (by omega); rwa [Int.toNat_natCast] at this
  have bV : Bd 1 1 (varF w) := Bd_single (by omega) (lN_small (by decide)) (by rw [lN_zero]; omega)
  have l2 : lN 2 ≤ 1 := lN_small (by decide)
  have lo : lN (2 * k + 1) ≤ 1 := lN_small (by omega)
  have lk : lN k ≤ 1 := lN_small (by omega)
  have sc := f6_Scale_e (varF w) 2 (by decide) (by decide) (WF_var w) bV (by omega)
  have oo := i_Of (2 * k + 1) (by omega) (by omega)
  have co := f6_Const_e (2 * k + 1) (by omega)
  have su := f6_Sub (encL (scF (varF w) 2)) (encL (constF (2 * k + 1))) (N := 1) (L := 3) (by decide) (by decide) (BL_enc ((Bd_sc bV 2).mono (by decide) (by omega))) (BL_enc ⟨Nat.zero_le _, (fun m hm => by cases hm), by show lN (2 * k + 1) ≤ 3; omega⟩)
  rw [gL_encL, gL_encL, lv_enc (WF_sc (WF_var w) 2), lv_enc (WF_const (2 * k + 1))] at su
  have eO : addF (scF (varF w) 2) (scF (constF (2 * k + 1)) (-1)) = oddF w k := by
    unfold scF
    rw [if_neg (by decide), if_neg (by decide)]
    show (mer [(w, (1 : Int) * 2)] [], (0 : Int) * 2 + (2 * k + 1) * -1) = _
    rw [mer_nil_right]; refine Prod.ext rfl ?_
    show (0 : Int) * 2 + (2 * k + 1) * -1 = -(2 * k + 1); omega
  rw [eO] at su
  have ro := round_half w k (by omega) (by omega)
  have ra := r_RatOf_e 1 2 (by have : lN 1 ≤ 1 := lN_small (by decide); omega) (by omega)
  have ra3 := r_RatOf_e 1 3 (by have : lN 1 ≤ 1 := lN_small (by decide); omega) (by have : lN 3 ≤ 1 := lN_small (by decide); omega)
  obtain ⟨G, hG, r3⟩ := round_odd w k (Rat.divInt 1 3) (by omega) (by omega) (Nat.le_trans (lQ_small (by decide) (by decide)) (by decide))
  have hrc : rdC [encL (oddF w k)] [rawQ (Rat.divInt 1 3)] G := by
    refine .inr ⟨2 * Rat.divInt 1 3, ?_, by decide +kernel⟩
    rw [hG, List.mem_iff_getElem]
    refine ⟨w, by rw [fnL_len]; omega, ?_⟩
    rw [fnL_get, if_pos rfl]
  rw [decide_eq_false (fun h => h hrc)] at r3
  have rx := r_RatOf_e (2 * k + 1) 2 (by omega) (by omega)
  have lx : lQ (Rat.divInt (2 * k + 1) 2) ≤ 3 := by
    have h1 := lQ_mul ((2 * k + 1 : Int) : Rat) (Rat.divInt 1 2)
    have h2 : ((2 * k + 1 : Int) : Rat) * Rat.divInt 1 2 = Rat.divInt (2 * k + 1) 2 := by
      rw [half_val, Rat.divInt_eq_div]
      have : ((2 : Int) : Rat) = 2 := rfl
      grind
    have h3 := lQ_int (2 * k + 1)
    have h4 : lQ (Rat.divInt 1 2) ≤ 1 := lQ_small (by decide) (by decide)
    rw [h2] at h1; omega
  have cu := cuts_odd w k (List.replicate w (false, [], []) ++ [rawQ (Rat.divInt (2 * k + 1) 2)]) (by omega) (by omega) (by simp; omega) (K := 3) (by decide) (by decide) (fun q hq => by
    rcases List.mem_append.1 hq with hq | hq
    · obtain rfl := (List.mem_replicate.1 hq).2; exact ⟨Nat.zero_le _, Nat.zero_le _⟩
    · exact rawQ_len lx q hq) (by
    rw [ptQ_last, Rat.divInt_eq_div, Rat.intCast_add, Rat.intCast_mul]
    have : ((2 : Int) : Rat) = 2 := rfl
    have : ((1 : Int) : Rat) = 1 := rfl
    grind)
  have ok1 := i_Of k (by omega) (by omega)
  have ck := f6_Const_e k (by omega)
  have sk := f6_Sub (encL (varF w)) (encL (constF k)) (N := 1) (L := 3) (by decide) (by decide) (BL_enc (bV.mono (by decide) (by decide))) (BL_enc ⟨Nat.zero_le _, (fun m hm => by cases hm), by show lN k ≤ 3; omega⟩)
  rw [gL_encL, gL_encL, lv_enc (WF_var w), lv_enc (WF_const k), sub_var] at sk
  have bI := Bd_int (w := w) (k := k) (by omega) (by omega)
  have e1 := tB_of (f6_Equal (intF w k) (intF w k) (by decide) (by decide) bI bI) rfl
  obtain ⟨u1, hu1⟩ : ∃ c : Int, c = 1 := ⟨_, rfl⟩
  obtain ⟨u2, hu2⟩ : ∃ c : Int, c = 2 := ⟨_, rfl⟩
  obtain ⟨u3, hu3⟩ : ∃ c : Int, c = 3 := ⟨_, rfl⟩
  obtain ⟨od, hod⟩ : ∃ c : Int, c = 2 * k + 1 := ⟨_, rfl⟩
  have o1 : PCall Tryz.prog 24 [tI .i64 1] (eI u1) := by rw [hu1]; exact i_Of 1 (by decide) (by decide)
  have o2 : PCall Tryz.prog 24 [tI .i64 2] (eI u2) := by rw [hu2]; exact i_Of 2 (by decide) (by decide)
  have o3 : PCall Tryz.prog 24 [tI .i64 3] (eI u3) := by rw [hu3]; exact i_Of 3 (by decide) (by decide)
  have hk3 : IntKind.i64.wrap (2 * k + 1) = od := hk3.trans hod.symm
  rw [← hod] at oo co su rx cu
  rw [← hu2] at sc su rx cu
  obtain ⟨H, hH⟩ : ∃ q : Rat, q = Rat.divInt 1 2 := ⟨_, rfl⟩
  obtain ⟨H3, hH3⟩ : ∃ q : Rat, q = Rat.divInt 1 3 := ⟨_, rfl⟩
  rw [← hH] at ra ro
  rw [← hH3] at ra3 r3
  rw [← hu1, ← hu2] at ra
  rw [← hu1, ← hu3] at ra3
  have hlen1 : ((w + 1 : Nat) : Int).toNat = w + 1 := Int.toNat_natCast _
  generalize hX : Rat.divInt od u2 = X at *
  have cu := cu.tw (tvs' := [.one (.seq (some false) [cF (oddF w k)]), .one (eL cZ0 (List.replicate w none ++ [some X]))]) (.cons .refl1 (.cons (.one (TW.list (.inr rfl) (twz X w))) .nil))
  generalize rdF [encL (oddF w k)] [rawQ H3] G (-(od : Rat) * H3) = RF at *
  generalize scF (varF w) u2 = S at *
  generalize varF w = V at *
  generalize constF od = C1 at *
  generalize constF k = C2 at *
  generalize intF w k = I at *
  generalize oddF w k = O at *
  clear hu1 hu2 hu3 hod hH hH3 hX hrc hG
  simp only [go_sem]
  ((repeat (refine regA_by 0 rfl ?_; simp only [go_sem, hw, hw3, hw4, hk1, hk2, hk3])); refine call_pure (hk) rfl ?_; simp only [go_sem, hw, hw3, hw4, hk1, hk2, hk3]; (repeat (refine regA_by 0 rfl ?_; simp only [go_sem, hw, hw3, hw4, hk1, hk2, hk3])); refine call_pure (va) rfl ?_; simp only [go_sem, hw, hw3, hw4, hk1, hk2, hk3]; (repeat (refine regA_by 0 rfl ?_; simp only [go_sem, hw, hw3, hw4, hk1, hk2, hk3])); refine call_pure (o2) rfl ?_; simp only [go_sem, hw, hw3, hw4, hk1, hk2, hk3]; (repeat (refine regA_by 0 rfl ?_; simp only [go_sem, hw, hw3, hw4, hk1, hk2, hk3])); refine call_pure (sc) rfl ?_; simp only [go_sem, hw, hw3, hw4, hk1, hk2, hk3]; (repeat (refine regA_by 0 rfl ?_; simp only [go_sem, hw, hw3, hw4, hk1, hk2, hk3])); refine call_pure (oo) rfl ?_; simp only [go_sem, hw, hw3, hw4, hk1, hk2, hk3]; (repeat (refine regA_by 0 rfl ?_; simp only [go_sem, hw, hw3, hw4, hk1, hk2, hk3])); refine call_pure (co) rfl ?_; simp only [go_sem, hw, hw3, hw4, hk1, hk2, hk3]; (repeat (refine regA_by 0 rfl ?_; simp only [go_sem, hw, hw3, hw4, hk1, hk2, hk3])); refine call_pure (su) rfl ?_; simp only [go_sem, hw, hw3, hw4, hk1, hk2, hk3]; (repeat (refine regA_by 0 rfl ?_; simp only [go_sem, hw, hw3, hw4, hk1, hk2, hk3])); refine call_pure (o1) rfl ?_; simp only [go_sem, hw, hw3, hw4, hk1, hk2, hk3]; (repeat (refine regA_by 0 rfl ?_; simp only [go_sem, hw, hw3, hw4, hk1, hk2, hk3])); refine call_pure (o2) rfl ?_; simp only [go_sem, hw, hw3, hw4, hk1, hk2, hk3]; (repeat (refine regA_by 0 rfl ?_; simp only [go_sem, hw, hw3, hw4, hk1, hk2, hk3])); refine call_pure (ra) rfl ?_; simp only [go_sem, hw, hw3, hw4, hk1, hk2, hk3]; (repeat (refine regA_by 0 rfl ?_; simp only [go_sem, hw, hw3, hw4, hk1, hk2, hk3])); refine call_pure (ro) rfl ?_; simp only [go_sem, hw, hw3, hw4, hk1, hk2, hk3]; (repeat (refine regA_by 0 rfl ?_; simp only [go_sem, hw, hw3, hw4, hk1, hk2, hk3])); refine call_pure (o1) rfl ?_; simp only [go_sem, hw, hw3, hw4, hk1, hk2, hk3]; (repeat (refine regA_by 0 rfl ?_; simp only [go_sem, hw, hw3, hw4, hk1, hk2, hk3])); refine call_pure (o3) rfl ?_; simp only [go_sem, hw, hw3, hw4, hk1, hk2, hk3]; (repeat (refine regA_by 0 rfl ?_; simp only [go_sem, hw, hw3, hw4, hk1, hk2, hk3])); refine call_pure (ra3) rfl ?_; simp only [go_sem, hw, hw3, hw4, hk1, hk2, hk3]; (repeat (refine regA_by 0 rfl ?_; simp only [go_sem, hw, hw3, hw4, hk1, hk2, hk3])); refine call_pure (r3) rfl ?_; simp only [go_sem, hw, hw3, hw4, hk1, hk2, hk3]; (repeat (refine regA_by 0 rfl ?_; simp only [go_sem, hw, hw3, hw4, hk1, hk2, hk3])))
  refine ⟨by omega, ?_⟩
  have hzl : (cellsL cZ0 (List.replicate n none)).length = n * 3 := by rw [cellsL_length cZ0_len, List.length_replicate]
  have hzr := cZ0_repl n
  have hzs := cZ0_set w X
  rw [← hn] at hzs
  have hZ : (List.replicate w none ++ [some X]).length = n := by simp [hn]
  generalize List.replicate w none ++ [some X] = ZL at *
  refine call_pure oo rfl ?_
  simp only [go_sem]
  refine call_pure o2 rfl ?_
  simp only [go_sem]
  refine call_pure rx rfl ?_
  simp only [go_sem, hzr, hzl, hzs]
  (repeat (refine And.intro (by omega) ?_))
  refine call_frz 53 3 n rfl cu (by simp only [go_sem, hzr, hzl, hzs] <;> rfl) (by rw [← hZ]; exact treeOf_L cZ0_len) ?_ ?_
  · simp only [go_sem] <;> rfl
  · simp only [go_sem]
    ((repeat (refine regA_by 0 rfl ?_; simp only [go_sem, hk1])); refine call_pure (va) rfl ?_; simp only [go_sem, hk1]; (repeat (refine regA_by 0 rfl ?_; simp only [go_sem, hk1])); refine call_pure (ok1) rfl ?_; simp only [go_sem, hk1]; (repeat (refine regA_by 0 rfl ?_; simp only [go_sem, hk1])); refine call_pure (ck) rfl ?_; simp only [go_sem, hk1]; (repeat (refine regA_by 0 rfl ?_; simp only [go_sem, hk1])); refine call_pure (sk) rfl ?_; simp only [go_sem, hk1]; (repeat (refine regA_by 0 rfl ?_; simp only [go_sem, hk1])))
    ((repeat (refine regA_by 0 rfl ?_; simp only [go_sem])); refine call_pure (e1) rfl ?_; simp only [go_sem]; (repeat (refine regA_by 0 rfl ?_; simp only [go_sem])); refine call_pure (e1) rfl ?_; simp only [go_sem]; (repeat (refine regA_by 0 rfl ?_; simp only [go_sem])))
    try rfl
end Go.Proofs.YtfgejnedaijjiaaGreat
namespace Go.Proofs.YtfgejnedaijjiaaGreat
open Go Go.Abs
set_option maxHeartbeats 32000000
theorem signLe {x : Rat} : x.num.sign ≤ 0 ↔ x ≤ 0 := by
  have h1 : 0 < x ↔ 0 < x.num := numPos
  have h2 : x ≤ 0 ↔ ¬ 0 < x := Rat.not_lt.symm
  rw [h2, h1]
  have h3 : 0 < x.num.sign ↔ 0 < x.num := Int.sign_pos_iff
  omega
theorem atQ_not (n : Int) (x : Rat) : atQ (notF (intF 0 n)) (ptQ [rawQ x]) = 1 + n - x := by
  rw [← not_int]
  have e : addF (constF (n + 1)) (scF (varF 0) (-1)) = ([(0, -1)], n + 1) := by
    unfold scF
    rw [if_neg (by decide)]
    show (mer [] [(0, (1 : Int) * -1)], (n + 1) + (0 : Int) * -1) = _
    rw [mer_nil_left]; refine Prod.ext rfl ?_
    show (n + 1) + (0 : Int) * -1 = n + 1; omega
  rw [e]
  show ((n + 1 : Int) : Rat) + (((-1 : Int) : Rat) * ptQ [rawQ x] 0 + 0) = 1 + n - x
  rw [ptQ_raw, Rat.intCast_add]
  have : ((-1 : Int) : Rat) = -1 := rfl
  have : ((1 : Int) : Rat) = 1 := rfl
  grind
theorem atQ_int (n : Int) (x : Rat) : atQ (intF 0 n) (ptQ [rawQ x]) = x - n := by
  show ((-n : Int) : Rat) + (((1 : Int) : Rat) * ptQ [rawQ x] 0 + 0) = x - n
  rw [ptQ_raw, Rat.intCast_neg]
  have : ((1 : Int) : Rat) = 1 := rfl
  grind
theorem den_floor (x : Rat) : x.den = 1 ↔ x - x.floor ≤ 0 := by
  have h1 := Rat.floor_le x
  constructor
  · intro h
    have e : x = (x.num : Rat) := by
      have := Rat.num_divInt_den x
      rw [h, Rat.divInt_eq_div] at this
      have e : ((1 : Nat) : Int) = 1 := rfl
      rw [e] at this
      have e : ((1 : Int) : Rat) = 1 := rfl
      rw [e] at this
      grind
    have e2 : x.floor = x.num := by
      have := Rat.floor_intCast x.num
      rwa [← e] at this
    rw [e2, ← e]; grind
  · intro h
    have e : x = (x.floor : Rat) := by grind
    rw [e]; exact Rat.den_intCast _
set_option maxRecDepth 100000 in
theorem p_CutBranches (p : Int) (p1 : -2147483648 ≤ p) (p2 : p < 2147483648) (q : Int) (q1 : 0 ≤ q) (q2 : q < 256) (n : Int) (n1 : -2147483648 ≤ n) (n2 : n < 2147483648) : PCall Tryz.prog 11 [tI .i32 p, tI .u8 q, tI .i32 n] (tB true) := by
  have hk := known21
  refine pcall_of_wpA mixed Tryz.call11 Tryz.func11 rfl Tryz.ntmps11 Tryz.results11 (by simp) (by decide) ?_
  have hp1 : IntKind.i64.wrap p = p := wrap_i64 (by omega) (by omega)
  have hq1 : IntKind.i64.wrap q = q := wrap_i64 (by omega) (by omega)
  have hn1 : IntKind.i64.wrap n = n := wrap_i64 (by omega) (by omega)
  obtain ⟨d, hd⟩ : ∃ d, d = q + 1 := ⟨_, rfl⟩
  have hq2 : IntKind.i64.wrap (q + 1) = d := by rw [wrap_i64 (by omega) (by omega), hd]
  have lp : lN p ≤ 3 := lN_of (by rw [show BB ^ 3 = 1000000000000000000000000000 from rfl]; omega)
  have ln : lN n ≤ 3 := lN_of (by rw [show BB ^ 3 = 1000000000000000000000000000 from rfl]; omega)
  have ld : lN d ≤ 1 := lN_small (by omega)
  have op := i_Of p (by omega) (by omega)
  have od := i_Of d (by omega) (by omega)
  have on := i_Of n (by omega) (by omega)
  have ra := r_RatOf_e p d (by omega) (by omega)
  have lx : lQ (Rat.divInt p d) ≤ 5 := by
    have h1 := lQ_mul (p : Rat) (Rat.divInt 1 d)
    have h2 : (p : Rat) * Rat.divInt 1 d = Rat.divInt p d := by
      rw [Rat.divInt_eq_div, Rat.divInt_eq_div]
      have : ((1 : Int) : Rat) = 1 := rfl
      grind
    have h3 := lQ_int p
    have h4 : lQ (Rat.divInt 1 d) ≤ 1 := by
      obtain ⟨k1, k2⟩ := quot_small (q := Rat.divInt 1 d) (y0 := d) (y1 := -1) (by
        rw [Rat.divInt_eq_div, Rat.intCast_neg]
        have : ((1 : Int) : Rat) = 1 := rfl
        have hne : (d : Rat) ≠ 0 := fun e => by
          have e : (d : Rat) = ((0 : Int) : Rat) := e
          have := Rat.intCast_inj.1 e
          omega
        have := Rat.mul_inv_cancel _ hne
        grind) (by omega)
      refine lQ_small ?_ ?_
      · have : (-1 : Int).natAbs = 1 := rfl
        omega
      · omega
    rw [h2] at h1; omega
  generalize Rat.divInt p d = x at *
  have lf : lN x.floor ≤ 6 := by
    have h1 := lN_floor x
    have h2 := lQ_num x
    omega
  have br := c_Branch 0 (rawQ x) (K := 5) (by decide) (by decide) (by decide) (by decide) (rawQ_len lx _ (List.mem_singleton.2 rfl)).1 (rawQ_len lx _ (List.mem_singleton.2 rfl)).2 _ rfl
  rw [qQ_raw, show ((0 : Int).toNat) = 0 from rfl, branch_form] at br
  have bP : Bd 1 6 (intF 0 x.floor) := Bd_intF (by decide) (by decide) lf
  have bN := Bd_not (by decide) bP
  have wN := WF_not (WF_intF 0 x.floor)
  have ri := r_RatInt_e n (by omega)
  have cm := r_CmpRat_e (n : Rat) x (by have := lQ_int n; omega) (by omega)
  have sn := (r_SameNat (dig x.den) [1] (by have := lQ_den x; rw [lN_nat'] at this; omega) (by decide)).fz (tvs' := [.one (eN (dig x.den)), .one (.seq (some false) [[.lit (.int .u32 1)]])]) (.cons (.one .t) (.cons (.one .weak) .nil))
  have a1 := (f6_AtRat (encL (intF 0 x.floor)) [rawQ x] (N := 1) (L := 6) (K := 5) (by decide) (by decide) (by decide) (by decide) (by decide) (BL_enc bP) (by simp) (rawQ_len lx)).tw (tvs' := [eF (intF 0 x.floor), .one (.seq (some false) [cR x])]) (by rw [gL_encL]; exact .cons .reflA (.cons tw_oneQ .nil))
  rw [lv_enc (WF_intF _ _), atQ_int] at a1
  have a2 := (f6_AtRat (encL (notF (intF 0 x.floor))) [rawQ x] (N := 2) (L := 8) (K := 5) (by decide) (by decide) (by decide) (by decide) (by decide) (BL_enc (bN.mono (by decide) (by decide))) (by simp) (rawQ_len lx)).tw (tvs' := [eF (notF (intF 0 x.floor)), .one (.seq (some false) [cR x])]) (by rw [gL_encL]; exact .cons .reflA (.cons tw_oneQ .nil))
  rw [lv_enc wN, atQ_not] at a2
  have s1 := r_SignRat_e (x - x.floor) (by have h1 := lQ_add x (-(x.floor : Rat)); have h2 := lQ_neg (x.floor : Rat); have h3 := lQ_int x.floor; rw [← Rat.sub_eq_add_neg] at h1; omega)
  have l1f := lN_add 1 x.floor
  have l11 : lN 1 ≤ 1 := lN_small (by decide)
  have e1f : ((1 : Rat) + x.floor) = ((1 + x.floor : Int) : Rat) := by rw [Rat.intCast_add]; rfl
  have s2 := r_SignRat_e (1 + x.floor - x) (by have h1 := lQ_add ((1 + x.floor : Int) : Rat) (-x); have h2 := lQ_neg x; have h3 := lQ_int (1 + x.floor); rw [← Rat.sub_eq_add_neg, ← e1f] at h1; rw [← e1f] at h3; omega)
  have hone : ∀ q ∈ [(decide (n < 0), dig n.natAbs)], q.2.length ≤ 3 := fun q hq => by obtain rfl := List.mem_singleton.1 hq; exact ln
  have h1 := (f6_Holds_e (intF 0 x.floor) [(decide (n < 0), dig n.natAbs)] (K := 3) (by decide) (by decide) (by decide) (WF_intF _ _) bP (by simp) hone).tw (tvs' := [eF (intF 0 x.floor), .one (.seq (some false) [[.lit (.bool (decide (n < 0))), eN (dig n.natAbs)]])]) (.cons .reflA (.cons (.one .weak) .nil))
  have h2 := (f6_Holds_e (notF (intF 0 x.floor)) [(decide (n < 0), dig n.natAbs)] (K := 3) (by decide) (by decide) (by decide) wN bN (by simp) hone).tw (tvs' := [eF (notF (intF 0 x.floor)), .one (.seq (some false) [[.lit (.bool (decide (n < 0))), eN (dig n.natAbs)]])]) (.cons .reflA (.cons (.one .weak) .nil))
  have h1 := tB_iffB h1 (q := n ≤ x.floor) (by rw [at_intF, ptX_one]; omega)
  have h2 := tB_iffB h2 (q := ¬ n ≤ x.floor) (by rw [at_not, at_intF, ptX_one]; omega)
  have ec : (cmpQ (n : Rat) x ≤ 0) ↔ n ≤ x.floor := by
    rw [Rat.le_floor_iff]
    have h3 := cmpQ_gt (x := (n : Rat)) (y := x)
    have h4 : (n : Rat) ≤ x ↔ ¬ x < n := Rat.not_lt.symm
    rw [h4, ← h3]; omega
  have ein : ((x - x.floor).num.sign ≤ 0) ↔ x.den = 1 := by rw [signLe, ← den_floor]
  have eout : ((1 + (x.floor : Rat) - x).num.sign ≤ 0) = False := eq_false (by
    rw [signLe]
    have h5 := Rat.lt_floor_add_one x
    rw [Rat.intCast_add] at h5
    have : ((1 : Int) : Rat) = 1 := rfl
    grind)
  have edig : (dig x.den = [1]) ↔ x.den = 1 := dig_one_iff
  obtain ⟨X1, hX1⟩ : ∃ r : Rat, r = x - x.floor := ⟨_, rfl⟩
  obtain ⟨X2, hX2⟩ : ∃ r : Rat, r = 1 + x.floor - x := ⟨_, rfl⟩
  rw [← hX1] at a1 s1 ein
  rw [← hX2] at a2 s2 eout
  generalize cmpQ (n : Rat) x = cq at *
  generalize notF (intF 0 x.floor) = NP at *
  generalize intF 0 x.floor = P1 at *
  obtain ⟨N1, hN1⟩ : ∃ r : Rat, r = (n : Rat) := ⟨_, rfl⟩
  rw [← hN1] at ri cm
  generalize X1.num.sign = g1 at *
  generalize X2.num.sign = g2 at *
  clear hX1 hX2 hN1 bP bN wN
  by_cases P : n ≤ x.floor
  · have h1 := tB_of h1 P
    have h2 := tB_not h2 (fun h => h P)
    have ec : (cq ≤ 0) = True := eq_true (ec.2 P)
    by_cases D : x.den = 1
    · have ein : (g1 ≤ 0) = True := eq_true (ein.2 D)
      have sn := tB_of sn (edig.2 D)
      simp only [go_sem]
      ((repeat (refine regA_by 0 rfl ?_; simp only [go_sem, hp1, hq1, hn1, hq2, ec, ein, eout, List.mem_singleton, forall_eq])); refine call_pure (hk) rfl ?_; simp only [go_sem, hp1, hq1, hn1, hq2, ec, ein, eout, List.mem_singleton, forall_eq]; (repeat (refine regA_by 0 rfl ?_; simp only [go_sem, hp1, hq1, hn1, hq2, ec, ein, eout, List.mem_singleton, forall_eq])); refine call_pure (op) rfl ?_; simp only [go_sem, hp1, hq1, hn1, hq2, ec, ein, eout, List.mem_singleton, forall_eq]; (repeat (refine regA_by 0 rfl ?_; simp only [go_sem, hp1, hq1, hn1, hq2, ec, ein, eout, List.mem_singleton, forall_eq])); refine call_pure (od) rfl ?_; simp only [go_sem, hp1, hq1, hn1, hq2, ec, ein, eout, List.mem_singleton, forall_eq]; (repeat (refine regA_by 0 rfl ?_; simp only [go_sem, hp1, hq1, hn1, hq2, ec, ein, eout, List.mem_singleton, forall_eq])); refine call_pure (ra) rfl ?_; simp only [go_sem, hp1, hq1, hn1, hq2, ec, ein, eout, List.mem_singleton, forall_eq]; (repeat (refine regA_by 0 rfl ?_; simp only [go_sem, hp1, hq1, hn1, hq2, ec, ein, eout, List.mem_singleton, forall_eq])); refine call_pure (br) rfl ?_; simp only [go_sem, hp1, hq1, hn1, hq2, ec, ein, eout, List.mem_singleton, forall_eq]; (repeat (refine regA_by 0 rfl ?_; simp only [go_sem, hp1, hq1, hn1, hq2, ec, ein, eout, List.mem_singleton, forall_eq])); refine call_pure (on) rfl ?_; simp only [go_sem, hp1, hq1, hn1, hq2, ec, ein, eout, List.mem_singleton, forall_eq]; (repeat (refine regA_by 0 rfl ?_; simp only [go_sem, hp1, hq1, hn1, hq2, ec, ein, eout, List.mem_singleton, forall_eq])); refine call_pure (ri) rfl ?_; simp only [go_sem, hp1, hq1, hn1, hq2, ec, ein, eout, List.mem_singleton, forall_eq]; (repeat (refine regA_by 0 rfl ?_; simp only [go_sem, hp1, hq1, hn1, hq2, ec, ein, eout, List.mem_singleton, forall_eq])); refine call_pure (cm) rfl ?_; simp only [go_sem, hp1, hq1, hn1, hq2, ec, ein, eout, List.mem_singleton, forall_eq]; (repeat (refine regA_by 0 rfl ?_; simp only [go_sem, hp1, hq1, hn1, hq2, ec, ein, eout, List.mem_singleton, forall_eq])); refine call_pure (sn) rfl ?_; simp only [go_sem, hp1, hq1, hn1, hq2, ec, ein, eout, List.mem_singleton, forall_eq]; (repeat (refine regA_by 0 rfl ?_; simp only [go_sem, hp1, hq1, hn1, hq2, ec, ein, eout, List.mem_singleton, forall_eq])); refine call_pure (a1) rfl ?_; simp only [go_sem, hp1, hq1, hn1, hq2, ec, ein, eout, List.mem_singleton, forall_eq]; (repeat (refine regA_by 0 rfl ?_; simp only [go_sem, hp1, hq1, hn1, hq2, ec, ein, eout, List.mem_singleton, forall_eq])); refine call_pure (s1) rfl ?_; simp only [go_sem, hp1, hq1, hn1, hq2, ec, ein, eout, List.mem_singleton, forall_eq]; (repeat (refine regA_by 0 rfl ?_; simp only [go_sem, hp1, hq1, hn1, hq2, ec, ein, eout, List.mem_singleton, forall_eq])); refine call_pure (a2) rfl ?_; simp only [go_sem, hp1, hq1, hn1, hq2, ec, ein, eout, List.mem_singleton, forall_eq]; (repeat (refine regA_by 0 rfl ?_; simp only [go_sem, hp1, hq1, hn1, hq2, ec, ein, eout, List.mem_singleton, forall_eq])); refine call_pure (s2) rfl ?_; simp only [go_sem, hp1, hq1, hn1, hq2, ec, ein, eout, List.mem_singleton, forall_eq]; (repeat (refine regA_by 0 rfl ?_; simp only [go_sem, hp1, hq1, hn1, hq2, ec, ein, eout, List.mem_singleton, forall_eq])); refine call_pure (h1) rfl ?_; simp only [go_sem, hp1, hq1, hn1, hq2, ec, ein, eout, List.mem_singleton, forall_eq]; (repeat (refine regA_by 0 rfl ?_; simp only [go_sem, hp1, hq1, hn1, hq2, ec, ein, eout, List.mem_singleton, forall_eq])); refine call_pure (h2) rfl ?_; simp only [go_sem, hp1, hq1, hn1, hq2, ec, ein, eout, List.mem_singleton, forall_eq]; (repeat (refine regA_by 0 rfl ?_; simp only [go_sem, hp1, hq1, hn1, hq2, ec, ein, eout, List.mem_singleton, forall_eq])))
    · have ein : (g1 ≤ 0) = False := eq_false (fun h => D (ein.1 h))
      have sn := tB_not sn (fun h => D (edig.1 h))
      simp only [go_sem]
      ((repeat (refine regA_by 0 rfl ?_; simp only [go_sem, hp1, hq1, hn1, hq2, ec, ein, eout, List.mem_singleton, forall_eq])); refine call_pure (hk) rfl ?_; simp only [go_sem, hp1, hq1, hn1, hq2, ec, ein, eout, List.mem_singleton, forall_eq]; (repeat (refine regA_by 0 rfl ?_; simp only [go_sem, hp1, hq1, hn1, hq2, ec, ein, eout, List.mem_singleton, forall_eq])); refine call_pure (op) rfl ?_; simp only [go_sem, hp1, hq1, hn1, hq2, ec, ein, eout, List.mem_singleton, forall_eq]; (repeat (refine regA_by 0 rfl ?_; simp only [go_sem, hp1, hq1, hn1, hq2, ec, ein, eout, List.mem_singleton, forall_eq])); refine call_pure (od) rfl ?_; simp only [go_sem, hp1, hq1, hn1, hq2, ec, ein, eout, List.mem_singleton, forall_eq]; (repeat (refine regA_by 0 rfl ?_; simp only [go_sem, hp1, hq1, hn1, hq2, ec, ein, eout, List.mem_singleton, forall_eq])); refine call_pure (ra) rfl ?_; simp only [go_sem, hp1, hq1, hn1, hq2, ec, ein, eout, List.mem_singleton, forall_eq]; (repeat (refine regA_by 0 rfl ?_; simp only [go_sem, hp1, hq1, hn1, hq2, ec, ein, eout, List.mem_singleton, forall_eq])); refine call_pure (br) rfl ?_; simp only [go_sem, hp1, hq1, hn1, hq2, ec, ein, eout, List.mem_singleton, forall_eq]; (repeat (refine regA_by 0 rfl ?_; simp only [go_sem, hp1, hq1, hn1, hq2, ec, ein, eout, List.mem_singleton, forall_eq])); refine call_pure (on) rfl ?_; simp only [go_sem, hp1, hq1, hn1, hq2, ec, ein, eout, List.mem_singleton, forall_eq]; (repeat (refine regA_by 0 rfl ?_; simp only [go_sem, hp1, hq1, hn1, hq2, ec, ein, eout, List.mem_singleton, forall_eq])); refine call_pure (ri) rfl ?_; simp only [go_sem, hp1, hq1, hn1, hq2, ec, ein, eout, List.mem_singleton, forall_eq]; (repeat (refine regA_by 0 rfl ?_; simp only [go_sem, hp1, hq1, hn1, hq2, ec, ein, eout, List.mem_singleton, forall_eq])); refine call_pure (cm) rfl ?_; simp only [go_sem, hp1, hq1, hn1, hq2, ec, ein, eout, List.mem_singleton, forall_eq]; (repeat (refine regA_by 0 rfl ?_; simp only [go_sem, hp1, hq1, hn1, hq2, ec, ein, eout, List.mem_singleton, forall_eq])); refine call_pure (sn) rfl ?_; simp only [go_sem, hp1, hq1, hn1, hq2, ec, ein, eout, List.mem_singleton, forall_eq]; (repeat (refine regA_by 0 rfl ?_; simp only [go_sem, hp1, hq1, hn1, hq2, ec, ein, eout, List.mem_singleton, forall_eq])); refine call_pure (a1) rfl ?_; simp only [go_sem, hp1, hq1, hn1, hq2, ec, ein, eout, List.mem_singleton, forall_eq]; (repeat (refine regA_by 0 rfl ?_; simp only [go_sem, hp1, hq1, hn1, hq2, ec, ein, eout, List.mem_singleton, forall_eq])); refine call_pure (s1) rfl ?_; simp only [go_sem, hp1, hq1, hn1, hq2, ec, ein, eout, List.mem_singleton, forall_eq]; (repeat (refine regA_by 0 rfl ?_; simp only [go_sem, hp1, hq1, hn1, hq2, ec, ein, eout, List.mem_singleton, forall_eq])); refine call_pure (a2) rfl ?_; simp only [go_sem, hp1, hq1, hn1, hq2, ec, ein, eout, List.mem_singleton, forall_eq]; (repeat (refine regA_by 0 rfl ?_; simp only [go_sem, hp1, hq1, hn1, hq2, ec, ein, eout, List.mem_singleton, forall_eq])); refine call_pure (s2) rfl ?_; simp only [go_sem, hp1, hq1, hn1, hq2, ec, ein, eout, List.mem_singleton, forall_eq]; (repeat (refine regA_by 0 rfl ?_; simp only [go_sem, hp1, hq1, hn1, hq2, ec, ein, eout, List.mem_singleton, forall_eq])); refine call_pure (h1) rfl ?_; simp only [go_sem, hp1, hq1, hn1, hq2, ec, ein, eout, List.mem_singleton, forall_eq]; (repeat (refine regA_by 0 rfl ?_; simp only [go_sem, hp1, hq1, hn1, hq2, ec, ein, eout, List.mem_singleton, forall_eq])); refine call_pure (h2) rfl ?_; simp only [go_sem, hp1, hq1, hn1, hq2, ec, ein, eout, List.mem_singleton, forall_eq]; (repeat (refine regA_by 0 rfl ?_; simp only [go_sem, hp1, hq1, hn1, hq2, ec, ein, eout, List.mem_singleton, forall_eq])))
  · have h1 := tB_not h1 P
    have h2 := tB_of h2 P
    have ec : (cq ≤ 0) = False := eq_false (fun h => P (ec.1 h))
    by_cases D : x.den = 1
    · have ein : (g1 ≤ 0) = True := eq_true (ein.2 D)
      have sn := tB_of sn (edig.2 D)
      simp only [go_sem]
      ((repeat (refine regA_by 0 rfl ?_; simp only [go_sem, hp1, hq1, hn1, hq2, ec, ein, eout, List.mem_singleton, forall_eq])); refine call_pure (hk) rfl ?_; simp only [go_sem, hp1, hq1, hn1, hq2, ec, ein, eout, List.mem_singleton, forall_eq]; (repeat (refine regA_by 0 rfl ?_; simp only [go_sem, hp1, hq1, hn1, hq2, ec, ein, eout, List.mem_singleton, forall_eq])); refine call_pure (op) rfl ?_; simp only [go_sem, hp1, hq1, hn1, hq2, ec, ein, eout, List.mem_singleton, forall_eq]; (repeat (refine regA_by 0 rfl ?_; simp only [go_sem, hp1, hq1, hn1, hq2, ec, ein, eout, List.mem_singleton, forall_eq])); refine call_pure (od) rfl ?_; simp only [go_sem, hp1, hq1, hn1, hq2, ec, ein, eout, List.mem_singleton, forall_eq]; (repeat (refine regA_by 0 rfl ?_; simp only [go_sem, hp1, hq1, hn1, hq2, ec, ein, eout, List.mem_singleton, forall_eq])); refine call_pure (ra) rfl ?_; simp only [go_sem, hp1, hq1, hn1, hq2, ec, ein, eout, List.mem_singleton, forall_eq]; (repeat (refine regA_by 0 rfl ?_; simp only [go_sem, hp1, hq1, hn1, hq2, ec, ein, eout, List.mem_singleton, forall_eq])); refine call_pure (br) rfl ?_; simp only [go_sem, hp1, hq1, hn1, hq2, ec, ein, eout, List.mem_singleton, forall_eq]; (repeat (refine regA_by 0 rfl ?_; simp only [go_sem, hp1, hq1, hn1, hq2, ec, ein, eout, List.mem_singleton, forall_eq])); refine call_pure (on) rfl ?_; simp only [go_sem, hp1, hq1, hn1, hq2, ec, ein, eout, List.mem_singleton, forall_eq]; (repeat (refine regA_by 0 rfl ?_; simp only [go_sem, hp1, hq1, hn1, hq2, ec, ein, eout, List.mem_singleton, forall_eq])); refine call_pure (ri) rfl ?_; simp only [go_sem, hp1, hq1, hn1, hq2, ec, ein, eout, List.mem_singleton, forall_eq]; (repeat (refine regA_by 0 rfl ?_; simp only [go_sem, hp1, hq1, hn1, hq2, ec, ein, eout, List.mem_singleton, forall_eq])); refine call_pure (cm) rfl ?_; simp only [go_sem, hp1, hq1, hn1, hq2, ec, ein, eout, List.mem_singleton, forall_eq]; (repeat (refine regA_by 0 rfl ?_; simp only [go_sem, hp1, hq1, hn1, hq2, ec, ein, eout, List.mem_singleton, forall_eq])); refine call_pure (sn) rfl ?_; simp only [go_sem, hp1, hq1, hn1, hq2, ec, ein, eout, List.mem_singleton, forall_eq]; (repeat (refine regA_by 0 rfl ?_; simp only [go_sem, hp1, hq1, hn1, hq2, ec, ein, eout, List.mem_singleton, forall_eq])); refine call_pure (a1) rfl ?_; simp only [go_sem, hp1, hq1, hn1, hq2, ec, ein, eout, List.mem_singleton, forall_eq]; (repeat (refine regA_by 0 rfl ?_; simp only [go_sem, hp1, hq1, hn1, hq2, ec, ein, eout, List.mem_singleton, forall_eq])); refine call_pure (s1) rfl ?_; simp only [go_sem, hp1, hq1, hn1, hq2, ec, ein, eout, List.mem_singleton, forall_eq]; (repeat (refine regA_by 0 rfl ?_; simp only [go_sem, hp1, hq1, hn1, hq2, ec, ein, eout, List.mem_singleton, forall_eq])); refine call_pure (a2) rfl ?_; simp only [go_sem, hp1, hq1, hn1, hq2, ec, ein, eout, List.mem_singleton, forall_eq]; (repeat (refine regA_by 0 rfl ?_; simp only [go_sem, hp1, hq1, hn1, hq2, ec, ein, eout, List.mem_singleton, forall_eq])); refine call_pure (s2) rfl ?_; simp only [go_sem, hp1, hq1, hn1, hq2, ec, ein, eout, List.mem_singleton, forall_eq]; (repeat (refine regA_by 0 rfl ?_; simp only [go_sem, hp1, hq1, hn1, hq2, ec, ein, eout, List.mem_singleton, forall_eq])); refine call_pure (h1) rfl ?_; simp only [go_sem, hp1, hq1, hn1, hq2, ec, ein, eout, List.mem_singleton, forall_eq]; (repeat (refine regA_by 0 rfl ?_; simp only [go_sem, hp1, hq1, hn1, hq2, ec, ein, eout, List.mem_singleton, forall_eq])); refine call_pure (h2) rfl ?_; simp only [go_sem, hp1, hq1, hn1, hq2, ec, ein, eout, List.mem_singleton, forall_eq]; (repeat (refine regA_by 0 rfl ?_; simp only [go_sem, hp1, hq1, hn1, hq2, ec, ein, eout, List.mem_singleton, forall_eq])))
    · have ein : (g1 ≤ 0) = False := eq_false (fun h => D (ein.1 h))
      have sn := tB_not sn (fun h => D (edig.1 h))
      simp only [go_sem]
      ((repeat (refine regA_by 0 rfl ?_; simp only [go_sem, hp1, hq1, hn1, hq2, ec, ein, eout, List.mem_singleton, forall_eq])); refine call_pure (hk) rfl ?_; simp only [go_sem, hp1, hq1, hn1, hq2, ec, ein, eout, List.mem_singleton, forall_eq]; (repeat (refine regA_by 0 rfl ?_; simp only [go_sem, hp1, hq1, hn1, hq2, ec, ein, eout, List.mem_singleton, forall_eq])); refine call_pure (op) rfl ?_; simp only [go_sem, hp1, hq1, hn1, hq2, ec, ein, eout, List.mem_singleton, forall_eq]; (repeat (refine regA_by 0 rfl ?_; simp only [go_sem, hp1, hq1, hn1, hq2, ec, ein, eout, List.mem_singleton, forall_eq])); refine call_pure (od) rfl ?_; simp only [go_sem, hp1, hq1, hn1, hq2, ec, ein, eout, List.mem_singleton, forall_eq]; (repeat (refine regA_by 0 rfl ?_; simp only [go_sem, hp1, hq1, hn1, hq2, ec, ein, eout, List.mem_singleton, forall_eq])); refine call_pure (ra) rfl ?_; simp only [go_sem, hp1, hq1, hn1, hq2, ec, ein, eout, List.mem_singleton, forall_eq]; (repeat (refine regA_by 0 rfl ?_; simp only [go_sem, hp1, hq1, hn1, hq2, ec, ein, eout, List.mem_singleton, forall_eq])); refine call_pure (br) rfl ?_; simp only [go_sem, hp1, hq1, hn1, hq2, ec, ein, eout, List.mem_singleton, forall_eq]; (repeat (refine regA_by 0 rfl ?_; simp only [go_sem, hp1, hq1, hn1, hq2, ec, ein, eout, List.mem_singleton, forall_eq])); refine call_pure (on) rfl ?_; simp only [go_sem, hp1, hq1, hn1, hq2, ec, ein, eout, List.mem_singleton, forall_eq]; (repeat (refine regA_by 0 rfl ?_; simp only [go_sem, hp1, hq1, hn1, hq2, ec, ein, eout, List.mem_singleton, forall_eq])); refine call_pure (ri) rfl ?_; simp only [go_sem, hp1, hq1, hn1, hq2, ec, ein, eout, List.mem_singleton, forall_eq]; (repeat (refine regA_by 0 rfl ?_; simp only [go_sem, hp1, hq1, hn1, hq2, ec, ein, eout, List.mem_singleton, forall_eq])); refine call_pure (cm) rfl ?_; simp only [go_sem, hp1, hq1, hn1, hq2, ec, ein, eout, List.mem_singleton, forall_eq]; (repeat (refine regA_by 0 rfl ?_; simp only [go_sem, hp1, hq1, hn1, hq2, ec, ein, eout, List.mem_singleton, forall_eq])); refine call_pure (sn) rfl ?_; simp only [go_sem, hp1, hq1, hn1, hq2, ec, ein, eout, List.mem_singleton, forall_eq]; (repeat (refine regA_by 0 rfl ?_; simp only [go_sem, hp1, hq1, hn1, hq2, ec, ein, eout, List.mem_singleton, forall_eq])); refine call_pure (a1) rfl ?_; simp only [go_sem, hp1, hq1, hn1, hq2, ec, ein, eout, List.mem_singleton, forall_eq]; (repeat (refine regA_by 0 rfl ?_; simp only [go_sem, hp1, hq1, hn1, hq2, ec, ein, eout, List.mem_singleton, forall_eq])); refine call_pure (s1) rfl ?_; simp only [go_sem, hp1, hq1, hn1, hq2, ec, ein, eout, List.mem_singleton, forall_eq]; (repeat (refine regA_by 0 rfl ?_; simp only [go_sem, hp1, hq1, hn1, hq2, ec, ein, eout, List.mem_singleton, forall_eq])); refine call_pure (a2) rfl ?_; simp only [go_sem, hp1, hq1, hn1, hq2, ec, ein, eout, List.mem_singleton, forall_eq]; (repeat (refine regA_by 0 rfl ?_; simp only [go_sem, hp1, hq1, hn1, hq2, ec, ein, eout, List.mem_singleton, forall_eq])); refine call_pure (s2) rfl ?_; simp only [go_sem, hp1, hq1, hn1, hq2, ec, ein, eout, List.mem_singleton, forall_eq]; (repeat (refine regA_by 0 rfl ?_; simp only [go_sem, hp1, hq1, hn1, hq2, ec, ein, eout, List.mem_singleton, forall_eq])); refine call_pure (h1) rfl ?_; simp only [go_sem, hp1, hq1, hn1, hq2, ec, ein, eout, List.mem_singleton, forall_eq]; (repeat (refine regA_by 0 rfl ?_; simp only [go_sem, hp1, hq1, hn1, hq2, ec, ein, eout, List.mem_singleton, forall_eq])); refine call_pure (h2) rfl ?_; simp only [go_sem, hp1, hq1, hn1, hq2, ec, ein, eout, List.mem_singleton, forall_eq]; (repeat (refine regA_by 0 rfl ?_; simp only [go_sem, hp1, hq1, hn1, hq2, ec, ein, eout, List.mem_singleton, forall_eq])))
end Go.Proofs.YtfgejnedaijjiaaGreat
