/- At every input the call answers true and leaves its arguments as they were; no conditions. -/
import Derived.Test.YtfgejnedaijjiaaGreatCa
set_option linter.unusedSimpArgs false
set_option linter.unusedVariables false
namespace Go.Proofs.YtfgejnedaijjiaaGreat
open Go Go.Abs
set_option maxHeartbeats 16000000
theorem cR_set {n : Nat} {g : Nat → Rat} {k : Nat} (hk : k < n) {y : Rat} : (cellsL cR (fnL n g)).take (k * 3) ++ C.t (.lit (.bool (decide (y.num < 0)))) :: C.t (eN (dig y.num.natAbs)) :: C.t (eN (dig y.den)) :: (cellsL cR (fnL n g)).drop (k * 3 + 3) = cellsL cR (fnL n (fun v => if v = k then y else g v)) := by
  rw [cR_sd (by rw [fnL_len]; exact hk), fnL_set]
theorem getD_map {α β : Type} {f : α → β} {l : List α} {i : Nat} {d : β} (h : i < l.length) : (l.map f).getD i d = f l[i] := by
  rw [List.getD_eq_getElem?_getD, List.getElem?_map, List.getElem?_eq_getElem h]; rfl
set_option maxRecDepth 100000 in
theorem s_Sum (a : List LL) (x : List QQ) {A N L K V : Nat} (hA : a.length ≤ A) (hA2 : A ≤ 1000000) (hx : x.length < 1000000) (hL1 : 1 ≤ L) (hK1 : 1 ≤ K) (hL : L + K ≤ 1800) (hN : N ≤ 1000000) (hB : 1 + A * (L + K + 1) ≤ 1800) (ha : ∀ l ∈ a, BL N L l) (hV : ∀ l ∈ a, lastV (lv l) ≤ V) (hV' : V < 1000000) (hxk : ∀ q ∈ x, q.2.1.length ≤ K ∧ q.2.2.length ≤ K) :
    PCall Tryz.prog 29 [.one (eL cL a), tLQ x] (.tup [tLR (fnL (nV (a.map lv)) (cS (a.map lv) (x.map qQ) (min a.length x.length))), eQ (kS (a.map lv) (x.map qQ) (min a.length x.length))]) := by
  refine pcall_of_wpA mixed Tryz.call29 Tryz.func29 rfl Tryz.ntmps29 Tryz.results29 (by simp) (by decide) ?_
  have hzero := s_zero
  have hnV : ∀ i, nV ((a.map lv).take i) ≤ V := nV_le (fun f hf => by obtain ⟨l, hl, rfl⟩ := List.mem_map.1 hf; exact hV l hl)
  simp only [go_sem]
  refine loop_inv (fun i : Nat => stL 111 [(0, .one (.t (eL cL a))), (1, aLQ x), (5, .one (.ptr 5 0)), (6, litI .i64 (nV ((a.map lv).take i))), (18, .one (.t (eL cL a))), (19, litI .i64 a.length), (20, litI .i64 i)]
      [(5, z3)]) (fun i => i ≤ a.length) (fun i => a.length - i) 0 ?_ (Nat.zero_le _) ?_
  · rw [List.take_zero, show nV [] = 0 from rfl]
    (refine gstep_list rfl ?_ ?_ ?_ ?_ <;> (try simp only [go_sem, tail_one]) <;> (try simp))
  · intro i hi
    simp only [go_sem]
    refine CondR_if (fun hlt => ?_) (fun hge => ?_)
    · have hlt' : i < a.length := by omega
      have hel : elemD cL a i = cL a[i] := elemD_lt hlt'
      have h1 := s_held a[i] (by omega) (by omega) (ha _ (List.getElem_mem hlt'))
      have hb := Bd_lv (ha _ (List.getElem_mem hlt'))
      have hv := hV _ (List.getElem_mem hlt')
      have hn := hnV i
      have hnx : nV ((a.map lv).take (i + 1)) = max (nV ((a.map lv).take i)) (lastV (lv a[i])) := by
        rw [take_snoc (by rw [List.length_map]; exact hlt'), nV_snoc, List.getElem_map]
      generalize a[i] = l at *
      generalize lv l = f at *
      generalize nV ((a.map lv).take i) = n at *
      simp only [go_sem, hel, hlt]
      (repeat (refine And.intro (by omega) ?_))
      ((repeat (refine regA_by 0 rfl ?_; simp only [go_sem])); refine call_pure (h1) rfl ?_; simp only [go_sem]; (repeat (refine regA_by 0 rfl ?_; simp only [go_sem])))
      by_cases c : f.1.length = 0
      · have c' : ((0 : Int) < (f.1.length : Int)) = False := eq_false (by omega)
        have hla : lastV f = 0 := by unfold lastV; rw [List.length_eq_zero_iff.1 c]; rfl
        rw [hla, Nat.max_eq_left (Nat.zero_le _)] at hnx
        simp only [go_sem, c']
        refine ⟨i + 1, hlt', (by show a.length - (i + 1) < a.length - i; omega), ?_⟩
        (refine gstep_list rfl ?_ ?_ ?_ ?_ <;> (try simp only [go_sem, tail_one, hnx, wrap_i64 (n := (i : Int) + 1) (by omega) (by omega)]) <;> (try simp))
      · have c' : ((0 : Int) < (f.1.length : Int)) = True := eq_true (by omega)
        have hlt2 : f.1.length - 1 < f.1.length := by omega
        have hla : lastV f = f.1[f.1.length - 1].1 + 1 := by
          unfold lastV; rw [List.getLast?_eq_getElem?, List.getElem?_eq_getElem hlt2]
        have hel2 : elemD cMn f.1 (f.1.length - 1) = cMn f.1[f.1.length - 1] := elemD_lt hlt2
        rw [hla] at hnx hv
        have hfl := hb.1
        generalize f.1[f.1.length - 1] = m at *
        have htn : ((f.1.length : Int) - 1).toNat = f.1.length - 1 := by omega
        have hmx : (if (m.1 : Int) + 1 > (n : Int) then (m.1 : Int) + 1 else (n : Int)) = ((max n (m.1 + 1) : Nat) : Int) := by split <;> omega
        simp only [go_sem, c', hel2, wrap_i64 (n := (f.1.length : Int) - 1) (by omega) (by omega), htn, wrap_i64 (n := (m.1 : Int) + 1) (by omega) (by omega)]
        (repeat (refine And.intro (by omega) ?_))
        refine opA_max rfl (by simp only [go_sem] <;> rfl) (by simp only [go_sem] <;> rfl) (Nat.le_refl _) ?_
        rw [hmx, ← hnx]
        simp only [go_sem]
        refine ⟨i + 1, hlt', (by show a.length - (i + 1) < a.length - i; omega), ?_⟩
        (refine gstep_list rfl ?_ ?_ ?_ ?_ <;> (try simp only [go_sem, tail_one, wrap_i64 (n := (i : Int) + 1) (by omega) (by omega)]) <;> (try simp))
    · obtain rfl : i = a.length := by omega
      rw [show a.length = (a.map lv).length by simp, List.take_length]
      have hn := hnV a.length
      rw [List.take_of_length_le (by simp)] at hn
      generalize hn0 : nV (a.map lv) = n at *
      simp only [go_sem]
      (repeat (refine And.intro (by omega) ?_))
      refine loop_inv (fun i : Nat => stL 111 [(0, .one (.t (eL cL a))), (1, aLQ x), (5, .one (.ptr 5 0)), (9, .one (.vec 44 3 0 n)), (45, .one (.vec 44 3 0 n)), (46, litI .i64 n), (47, litI .i64 i)]
        [(5, z3), (44, cellsL cZ (List.replicate i (some 0) ++ List.replicate (n - i) none))]) (fun i => i ≤ n) (fun i => n - i) 0 ?_ (Nat.zero_le _) ?_
      · rw [Nat.sub_zero, List.replicate_zero, List.nil_append]
        refine GStep.trans (gstep_weakH 44 (cs := repl n z3) (by simp only [go_sem] <;> rfl) (weakL_z3 _)) ?_
        (refine gstep_list rfl ?_ ?_ ?_ ?_ <;> (try simp only [go_sem, tail_one, cellsL_refs]) <;> (try simp))
      · intro i hi
        simp only [go_sem]
        refine CondR_if (fun hlt => ?_) (fun hge => ?_)
        · have hlt' : i < n := by omega
          have hys : (List.replicate i (some (0 : Rat)) ++ List.replicate (n - i) none).length = n := by simp; omega
          have hnx : (List.replicate i (some (0 : Rat)) ++ List.replicate (n - i) none).set i (some 0) = List.replicate (i + 1) (some 0) ++ List.replicate (n - (i + 1)) none := by
            rw [List.set_append, if_neg (by simp), List.length_replicate, Nat.sub_self, show n - i = (n - (i + 1)) + 1 by omega, List.replicate_succ, List.set_cons_zero, List.replicate_succ']; simp
          generalize List.replicate i (some (0 : Rat)) ++ List.replicate (n - i) none = ys at *
          simp only [go_sem, hlt]
          (repeat (refine And.intro (by omega) ?_))
          refine call_pure hzero rfl ?_
          simp only [go_sem, hlt, cZ_clen]
          (repeat (refine And.intro (by omega) ?_))
          have hsd := cZ_sd (ys := ys) (i := i) (by omega) (q := 0)
          rw [hnx] at hsd
          refine ⟨i + 1, hlt', (by show n - (i + 1) < n - i; omega), ?_⟩
          (refine gstep_list rfl ?_ ?_ ?_ ?_ <;> (try simp only [go_sem, tail_one, cellsL_refs, hsd, wrap_i64 (n := (i : Int) + 1) (by omega) (by omega)]) <;> (try simp))
        · obtain rfl : n = i := by omega
          rw [Nat.sub_self, List.replicate_zero, List.append_nil, show List.replicate n (some (0 : Rat)) = (List.replicate n (0 : Rat)).map some by simp, cZ_map, ← fnL_zero]
          simp only [go_sem]
          ((repeat (refine regA_by 0 rfl ?_; simp only [go_sem])); refine call_pure (hzero) rfl ?_; simp only [go_sem]; (repeat (refine regA_by 0 rfl ?_; simp only [go_sem])))
          have hfn : ∀ f ∈ a.map lv, ∀ m ∈ f.1, m.1 < n := fun f hf m hm => by
            have h1 := nV_ge hf
            obtain ⟨l, hl, rfl⟩ := List.mem_map.1 hf
            have := lastV_lt (WF_lv l) m hm
            omega
          have hbd : ∀ f ∈ a.map lv, Bd N L f := fun f hf => by obtain ⟨l, hl, rfl⟩ := List.mem_map.1 hf; exact Bd_lv (ha l hl)
          have hqk : ∀ y ∈ x.map qQ, lQ y ≤ K := fun y hy => by
            obtain ⟨q, hq, rfl⟩ := List.mem_map.1 hy
            have h1 := hxk _ hq
            have h2 := lQ_qv q.1 q.2.1 q.2.2
            unfold qQ; omega
          have hck := lQ_cS hL1 hK1 hbd hqk
          have hkk := lQ_kS hL1 hK1 hbd hqk
          have hgl : ∀ i (h : i < a.length), (a.map lv).getD i ([], 0) = lv a[i] := fun i h => getD_map h
          have hgq : ∀ i (h : i < x.length), (x.map qQ).getD i 0 = qQ x[i] := fun i h => getD_map h
          have hla : ∀ i (h : i < a.length), lv a[i] ∈ a.map lv := fun i h => List.mem_map_of_mem (List.getElem_mem h)
          obtain ⟨m, hm⟩ : ∃ m, m = min a.length x.length := ⟨_, rfl⟩
          rw [← hm]
          generalize a.map lv = ls at *
          generalize x.map qQ = q at *
          have hrats := s_rats (fnL n (cS ls q m)) (by rw [fnL_len]; omega)
          have hend := q_Rat_e (kS ls q m)
          have hs2 : ∀ u v : Rat, lQ u ≤ 1900 → lQ v ≤ 1900 → PCall Tryz.prog 74 [.one (.seq (some false) [cR u, cR v])] (eQ (u + v)) := fun u v hu hv => by
            have := s_sum [u, v] (n := 2) (K := 1900) (by simp) (by decide) (fun y hy => by
              rcases List.mem_cons.1 hy with rfl | hy
              · exact hu
              · obtain rfl := List.mem_singleton.1 hy; exact hv)
            rw [show sumR [u, v] = u + v by show 0 + u + v = _; grind] at this
            exact this.fz (.cons (.one .weak) .nil)
          refine loop_inv (fun i : Nat => stL 111 [(0, .one (.t (eL cL a))), (1, aLQ x), (5, .one (.ptr 5 0)), (9, .one (.vec 44 3 0 n)), (11, .one (.ptr 11 0)), (56, .one (.t (eL cL a))), (57, litI .i64 a.length), (58, litI .i64 i)]
            [(5, z3), (11, (cR (kS ls q i)).map .t), (44, cellsL cR (fnL n (cS ls q i)))]) (fun i => i ≤ m) (fun i => m - i) 0 ?_ (Nat.zero_le _) ?_
          · rw [show kS ls q 0 = 0 from rfl, show fnL n (cS ls q 0) = fnL n (fun _ => 0) from rfl]
            (refine gstep_list rfl ?_ ?_ ?_ ?_ <;> (try simp only [go_sem, tail_one, cellsL_refs]) <;> (try simp))
          · intro i hi
            simp only [go_sem]
            refine CondR_if (fun hlt => ?_) (fun hge => ?_)
            · have hlt' : i < a.length := by omega
              have hel : elemD cL a i = cL a[i] := elemD_lt hlt'
              simp only [go_sem, hel, hlt]
              (repeat (refine And.intro (by omega) ?_))
              by_cases c : i < x.length
              · have c' : ((x.length : Int) ≤ (i : Int)) = False := eq_false (by omega)
                simp only [go_sem, c']
                have o1 := s_held a[i] (by omega) (by omega) (ha _ (List.getElem_mem hlt'))
                have hex : elemD cQ x i = cQ x[i] := elemD_lt c
                have hq := hxk _ (List.getElem_mem c)
                have o2 := q_Held x[i].1 x[i].2.1 x[i].2.2 (by omega) (by omega)
                have lc := lQ_qv x[i].1 x[i].2.1 x[i].2.2
                have wf := WF_lv a[i]
                have bf := hbd _ (hla i hlt')
                have hfi := hfn _ (hla i hlt')
                have hk1 : kS ls q (i + 1) = kS ls q i + ((lv a[i]).2 : Rat) * qQ x[i] := by show kS ls q i + ((ls.getD i ([], 0)).2 : Rat) * q.getD i 0 = _; rw [hgl i hlt', hgq i c]
                have hc1 : ∀ v, cS ls q (i + 1) v = cS ls q i v + (coM (lv a[i]).1 v : Rat) * qQ x[i] := fun v => by show cS ls q i v + (coM (ls.getD i ([], 0)).1 v : Rat) * q.getD i 0 = _; rw [hgl i hlt', hgq i c]
                have hki := hkk i
                have hci := fun v => hck v i
                have hmul : i * (L + K + 1) ≤ A * (L + K + 1) := Nat.mul_le_mul_right _ (by omega)
                unfold qQ at hk1 hc1
                generalize a[i] = l at *
                generalize lv l = f at *
                generalize x[i] = w at *
                generalize kS ls q i = k0 at *
                generalize hkk1 : kS ls q (i + 1) = k1 at *
                generalize cS ls q i = s0 at *
                have o3 := q_Of1_e f.2 (by have := bf.2.2; omega)
                have lf := lQ_int f.2
                have lf2 := bf.2.2
                generalize hr : qv w.1 w.2.1 w.2.2 = r at *
                have o4 := q_Times (f.2 : Rat) r (by omega) (by omega)
                have lm := lQ_mul (f.2 : Rat) r
                have o5 := hs2 k0 ((f.2 : Rat) * r) (by omega) (by omega)
                rw [← hk1] at o5
                refine regA_by 0 rfl ?_
                simp only [go_sem, hel, hlt]
                (repeat (refine And.intro (by omega) ?_))
                refine call_pure o1 rfl ?_
                simp only [go_sem, hex, c']
                (repeat (refine And.intro (by omega) ?_))
                refine call_pure o2 rfl ?_
                simp only [go_sem]
                (repeat (refine And.intro (by omega) ?_))
                refine regA_by 0 rfl ?_
                simp only [go_sem]
                ((repeat (refine regA_by 0 rfl ?_; simp only [go_sem])); refine call_pure (o3) rfl ?_; simp only [go_sem]; (repeat (refine regA_by 0 rfl ?_; simp only [go_sem])); refine call_pure (o4) rfl ?_; simp only [go_sem]; (repeat (refine regA_by 0 rfl ?_; simp only [go_sem])); refine call_pure (o5) rfl ?_; simp only [go_sem]; (repeat (refine regA_by 0 rfl ?_; simp only [go_sem])))
                have hfl := bf.1
                obtain ⟨G, hG⟩ : ∃ G : Nat → Nat → Rat, ∀ j v, G j v = s0 v + (coM (f.1.take j) v : Rat) * r := ⟨_, fun _ _ => rfl⟩
                refine loop_inv (fun j : Nat => stL 111 [(0, .one (.t (eL cL a))), (1, aLQ x), (5, .one (.ptr 5 0)), (9, .one (.vec 44 3 0 n)), (11, .one (.ptr 11 0)), (15, .one (.ptr 15 0)), (56, .one (.t (eL cL a))), (57, litI .i64 a.length), (58, litI .i64 i), (83, .one (.t (eL cMn f.1))), (84, litI .i64 f.1.length), (85, litI .i64 j)]
                  [(5, z3), (11, (cR k1).map .t), (15, (cR r).map .t), (44, cellsL cR (fnL n (G j)))]) (fun j => j ≤ f.1.length) (fun j => f.1.length - j) 0 ?_ (Nat.zero_le _) ?_
                · rw [show G 0 = s0 from funext fun v => by rw [hG, List.take_zero]; show s0 v + ((0 : Int) : Rat) * r = s0 v; rw [Rat.intCast_zero, Rat.zero_mul, Rat.add_zero]]
                  (refine gstep_list rfl ?_ ?_ ?_ ?_ <;> (try simp only [go_sem, tail_one, cellsL_refs]) <;> (try simp))
                · intro j hj
                  simp only [go_sem]
                  refine CondR_if (fun hlt2 => ?_) (fun hge2 => ?_)
                  · have hjl : j < f.1.length := by omega
                    have he2 : elemD cMn f.1 j = cMn f.1[j] := elemD_lt hjl
                    have hm1 := hfi _ (List.getElem_mem hjl)
                    have hm2 := (bf.2.1 _ (List.getElem_mem hjl)).2
                    have hct := coM_take wf hjl
                    have hc0 := coM_take_at wf hjl
                    have hgm : G j f.1[j].1 = s0 f.1[j].1 := by rw [hG, hc0, Rat.intCast_zero, Rat.zero_mul, Rat.add_zero]
                    have hg' : G (j + 1) = (fun v => if v = f.1[j].1 then s0 f.1[j].1 + (f.1[j].2 : Rat) * r else G j v) := funext fun v => by
                      by_cases e : v = f.1[j].1
                      · rw [if_pos e, e, hG, hct, if_pos rfl]
                      · rw [if_neg e, hG, hG, hct, if_neg e]
                    generalize f.1[j] = w2 at *
                    have p1 := q_Of1_e w2.2 (by omega)
                    have lw := lQ_int w2.2
                    have p2 := q_Times (w2.2 : Rat) r (by omega) (by omega)
                    have lx := lQ_mul (w2.2 : Rat) r
                    have p3 := hs2 (s0 w2.1) ((w2.2 : Rat) * r) (by have := hci w2.1; omega) (by omega)
                    have hcs := cR_set (n := n) (g := G j) hm1 (y := s0 w2.1 + (w2.2 : Rat) * r)
                    rw [← hg'] at hcs
                    have hat := cR_at (ys := fnL n (G j)) (i := w2.1) (by rw [fnL_len]; exact hm1)
                    rw [fnL_get, hgm] at hat
                    have hlt3 : ((w2.1 : Int) < (n : Int)) = True := eq_true (by omega)
                    simp only [go_sem, he2, hlt2]
                    (repeat (refine And.intro (by omega) ?_))
                    refine regA_by 0 rfl ?_
                    simp only [go_sem, hlt3, cR_clen, fnL_len, hat]
                    (repeat (refine And.intro (by omega) ?_))
                    ((repeat (refine regA_by 0 rfl ?_; simp only [go_sem])); refine call_pure (p1) rfl ?_; simp only [go_sem]; (repeat (refine regA_by 0 rfl ?_; simp only [go_sem])); refine call_pure (p2) rfl ?_; simp only [go_sem]; (repeat (refine regA_by 0 rfl ?_; simp only [go_sem])); refine call_pure (p3) rfl ?_; simp only [go_sem]; (repeat (refine regA_by 0 rfl ?_; simp only [go_sem])))
                    simp only [go_sem, hlt3, cR_clen, fnL_len, hcs]
                    (repeat (refine And.intro (by omega) ?_))
                    refine ⟨j + 1, hjl, (by show f.1.length - (j + 1) < f.1.length - j; omega), ?_⟩
                    (refine gstep_list rfl ?_ ?_ ?_ ?_ <;> (try simp only [go_sem, tail_one, cellsL_refs, hcs, wrap_i64 (n := (j : Int) + 1) (by omega) (by omega)]) <;> (try simp))
                  · obtain rfl : j = f.1.length := by omega
                    rw [show G f.1.length = cS ls q (i + 1) from funext fun v => by rw [hG, List.take_length, hc1]]
                    simp only [go_sem]
                    refine ⟨i + 1, by omega, (by show m - (i + 1) < m - i; omega), ?_⟩
                    (refine gstep_list rfl ?_ ?_ ?_ ?_ <;> (try simp only [go_sem, tail_one, cellsL_refs, hkk1, wrap_i64 (n := (i : Int) + 1) (by omega) (by omega)]) <;> (try simp))
              · have c' : ((x.length : Int) ≤ (i : Int)) = True := eq_true (by omega)
                obtain rfl : m = i := by omega
                simp only [go_sem, c']
                refine regA_g (gstep_frz (b := 44) (sz := 3) (len := n) (x := eL cR (fnL n (cS ls q m))) (cs := cellsL cR (fnL n (cS ls q m))) (by simp only [go_sem] <;> rfl) (by have := treeOf_L (xs := fnL n (cS ls q m)) cR_len; rwa [fnL_len] at this)) ?_
                refine regA_by 0 rfl ?_
                simp only [go_sem]
                ((repeat (refine regA_by 0 rfl ?_; simp only [go_sem])); refine call_pure (hrats) rfl ?_; simp only [go_sem]; (repeat (refine regA_by 0 rfl ?_; simp only [go_sem])); refine call_pure (hend) rfl ?_; simp only [go_sem]; (repeat (refine regA_by 0 rfl ?_; simp only [go_sem])))
                exact fz_tup2 (.one .t) (fz_agg3 .t .t .t)
            · obtain rfl : m = i := by omega
              simp only [go_sem]
              refine regA_g (gstep_frz (b := 44) (sz := 3) (len := n) (x := eL cR (fnL n (cS ls q m))) (cs := cellsL cR (fnL n (cS ls q m))) (by simp only [go_sem] <;> rfl) (by have := treeOf_L (xs := fnL n (cS ls q m)) cR_len; rwa [fnL_len] at this)) ?_
              refine regA_by 0 rfl ?_
              simp only [go_sem]
              ((repeat (refine regA_by 0 rfl ?_; simp only [go_sem])); refine call_pure (hrats) rfl ?_; simp only [go_sem]; (repeat (refine regA_by 0 rfl ?_; simp only [go_sem])); refine call_pure (hend) rfl ?_; simp only [go_sem]; (repeat (refine regA_by 0 rfl ?_; simp only [go_sem])))
              exact fz_tup2 (.one .t) (fz_agg3 .t .t .t)
end Go.Proofs.YtfgejnedaijjiaaGreat
namespace Go.Proofs.YtfgejnedaijjiaaGreat
open Go Go.Abs
set_option maxHeartbeats 16000000
set_option maxRecDepth 100000 in
theorem f6_Sum (a : List LL) (x : List QQ) {A N L K V : Nat} (hA : a.length ≤ A) (hA2 : A ≤ 1000000) (hx : x.length < 1000000) (hL1 : 1 ≤ L) (hK1 : 1 ≤ K) (hL : L + K ≤ 1800) (hN : N ≤ 1000000) (hB : 1 + A * (L + K + 1) ≤ 1800) (ha : ∀ l ∈ a, BL N L l) (hV : ∀ l ∈ a, lastV (lv l) ≤ V) (hV' : V < 1000000) (hxk : ∀ q ∈ x, q.2.1.length ≤ K ∧ q.2.2.length ≤ K) :
    PCall Tryz.prog 30 [.one (eL cL a), tLQ x] (.tup [tLR (fnL (nV (a.map lv)) (cS (a.map lv) (x.map qQ) (min a.length x.length))), eQ (kS (a.map lv) (x.map qQ) (min a.length x.length))]) := by
  refine pcall_of_wpA mixed Tryz.call30 Tryz.func30 rfl Tryz.ntmps30 Tryz.results30 (by simp) (by decide) ?_
  have hzero := r_RatInt_0
  have hnV : ∀ i, nV ((a.map lv).take i) ≤ V := nV_le (fun f hf => by obtain ⟨l, hl, rfl⟩ := List.mem_map.1 hf; exact hV l hl)
  simp only [go_sem]
  refine loop_inv (fun i : Nat => stL 119 [(0, .one (.t (eL cL a))), (1, aLQ x), (5, .one (.ptr 5 0)), (6, litI .i64 (nV ((a.map lv).take i))), (7, litI .i64 i)]
      [(5, z3)]) (fun i => i ≤ a.length) (fun i => a.length - i) 0 ?_ (Nat.zero_le _) ?_
  · rw [List.take_zero, show nV [] = 0 from rfl]
    (refine gstep_list rfl ?_ ?_ ?_ ?_ <;> (try simp only [go_sem, tail_one]) <;> (try simp))
  · intro i hi
    simp only [go_sem]
    refine CondR_if (fun hlt => ?_) (fun hge => ?_)
    · have hlt' : i < a.length := by omega
      have hel : elemD cL a i = cL a[i] := elemD_lt hlt'
      have h1 := f6_May' (by omega) (by omega) (ha _ (List.getElem_mem hlt'))
      have hb := Bd_lv (ha _ (List.getElem_mem hlt'))
      have hv := hV _ (List.getElem_mem hlt')
      have hn := hnV i
      have hnx : nV ((a.map lv).take (i + 1)) = max (nV ((a.map lv).take i)) (lastV (lv a[i])) := by
        rw [take_snoc (by rw [List.length_map]; exact hlt'), nV_snoc, List.getElem_map]
      generalize a[i] = l at *
      generalize lv l = f at *
      generalize nV ((a.map lv).take i) = n at *
      simp only [go_sem, hel, hlt]
      (repeat (refine And.intro (by omega) ?_))
      ((repeat (refine regA_by 0 rfl ?_; simp only [go_sem])); refine call_pure (h1) rfl ?_; simp only [go_sem]; (repeat (refine regA_by 0 rfl ?_; simp only [go_sem])))
      by_cases c : f.1.length = 0
      · have c' : ((0 : Int) < (f.1.length : Int)) = False := eq_false (by omega)
        have hla : lastV f = 0 := by unfold lastV; rw [List.length_eq_zero_iff.1 c]; rfl
        rw [hla, Nat.max_eq_left (Nat.zero_le _)] at hnx
        simp only [go_sem, c']
        refine ⟨i + 1, hlt', (by show a.length - (i + 1) < a.length - i; omega), ?_⟩
        (refine gstep_list rfl ?_ ?_ ?_ ?_ <;> (try simp only [go_sem, tail_one, hnx, wrap_i64 (n := (i : Int) + 1) (by omega) (by omega)]) <;> (try simp))
      · have c' : ((0 : Int) < (f.1.length : Int)) = True := eq_true (by omega)
        have hlt2 : f.1.length - 1 < f.1.length := by omega
        have hla : lastV f = f.1[f.1.length - 1].1 + 1 := by
          unfold lastV; rw [List.getLast?_eq_getElem?, List.getElem?_eq_getElem hlt2]
        have hel2 : elemD cMn f.1 (f.1.length - 1) = cMn f.1[f.1.length - 1] := elemD_lt hlt2
        rw [hla] at hnx hv
        have hfl := hb.1
        generalize f.1[f.1.length - 1] = m at *
        have htn : ((f.1.length : Int) - 1).toNat = f.1.length - 1 := by omega
        have hmx : (if (m.1 : Int) + 1 > (n : Int) then (m.1 : Int) + 1 else (n : Int)) = ((max n (m.1 + 1) : Nat) : Int) := by split <;> omega
        simp only [go_sem, c', hel2, wrap_i64 (n := (f.1.length : Int) - 1) (by omega) (by omega), htn, wrap_i64 (n := (m.1 : Int) + 1) (by omega) (by omega)]
        (repeat (refine And.intro (by omega) ?_))
        refine opA_max rfl (by simp only [go_sem] <;> rfl) (by simp only [go_sem] <;> rfl) (Nat.le_refl _) ?_
        rw [hmx, ← hnx]
        simp only [go_sem]
        refine ⟨i + 1, hlt', (by show a.length - (i + 1) < a.length - i; omega), ?_⟩
        (refine gstep_list rfl ?_ ?_ ?_ ?_ <;> (try simp only [go_sem, tail_one, wrap_i64 (n := (i : Int) + 1) (by omega) (by omega)]) <;> (try simp))
    · obtain rfl : i = a.length := by omega
      rw [show a.length = (a.map lv).length by simp, List.take_length]
      have hn := hnV a.length
      rw [List.take_of_length_le (by simp)] at hn
      generalize hn0 : nV (a.map lv) = n at *
      simp only [go_sem]
      (repeat (refine And.intro (by omega) ?_))
      refine loop_inv (fun i : Nat => stL 119 [(0, .one (.t (eL cL a))), (1, aLQ x), (5, .one (.ptr 5 0)), (6, litI .i64 n), (9, .one (.vec 44 3 0 n)), (10, litI .i64 i)]
        [(5, z3), (44, cellsL cZ (List.replicate i (some 0) ++ List.replicate (n - i) none))]) (fun i => i ≤ n) (fun i => n - i) 0 ?_ (Nat.zero_le _) ?_
      · rw [Nat.sub_zero, List.replicate_zero, List.nil_append]
        refine GStep.trans (gstep_weakH 44 (cs := repl n z3) (by simp only [go_sem] <;> rfl) (weakL_z3 _)) ?_
        (refine gstep_list rfl ?_ ?_ ?_ ?_ <;> (try simp only [go_sem, tail_one, cellsL_refs]) <;> (try simp))
      · intro i hi
        simp only [go_sem]
        refine CondR_if (fun hlt => ?_) (fun hge => ?_)
        · have hlt' : i < n := by omega
          have hys : (List.replicate i (some (0 : Rat)) ++ List.replicate (n - i) none).length = n := by simp; omega
          have hnx : (List.replicate i (some (0 : Rat)) ++ List.replicate (n - i) none).set i (some 0) = List.replicate (i + 1) (some 0) ++ List.replicate (n - (i + 1)) none := by
            rw [List.set_append, if_neg (by simp), List.length_replicate, Nat.sub_self, show n - i = (n - (i + 1)) + 1 by omega, List.replicate_succ, List.set_cons_zero, List.replicate_succ']; simp
          generalize List.replicate i (some (0 : Rat)) ++ List.replicate (n - i) none = ys at *
          simp only [go_sem, hlt]
          (repeat (refine And.intro (by omega) ?_))
          refine call_pure hzero rfl ?_
          simp only [go_sem, hlt, cZ_clen]
          (repeat (refine And.intro (by omega) ?_))
          have hsd := cZ_sd (ys := ys) (i := i) (by omega) (q := 0)
          rw [hnx] at hsd
          refine ⟨i + 1, hlt', (by show n - (i + 1) < n - i; omega), ?_⟩
          (refine gstep_list rfl ?_ ?_ ?_ ?_ <;> (try simp only [go_sem, tail_one, cellsL_refs, hsd, wrap_i64 (n := (i : Int) + 1) (by omega) (by omega)]) <;> (try simp))
        · obtain rfl : n = i := by omega
          rw [Nat.sub_self, List.replicate_zero, List.append_nil, show List.replicate n (some (0 : Rat)) = (List.replicate n (0 : Rat)).map some by simp, cZ_map, ← fnL_zero]
          simp only [go_sem]
          ((repeat (refine regA_by 0 rfl ?_; simp only [go_sem])); refine call_pure (hzero) rfl ?_; simp only [go_sem]; (repeat (refine regA_by 0 rfl ?_; simp only [go_sem])))
          have hfn : ∀ f ∈ a.map lv, ∀ m ∈ f.1, m.1 < n := fun f hf m hm => by
            have h1 := nV_ge hf
            obtain ⟨l, hl, rfl⟩ := List.mem_map.1 hf
            have := lastV_lt (WF_lv l) m hm
            omega
          have hbd : ∀ f ∈ a.map lv, Bd N L f := fun f hf => by obtain ⟨l, hl, rfl⟩ := List.mem_map.1 hf; exact Bd_lv (ha l hl)
          have hqk : ∀ y ∈ x.map qQ, lQ y ≤ K := fun y hy => by
            obtain ⟨q, hq, rfl⟩ := List.mem_map.1 hy
            have h1 := hxk _ hq
            have h2 := lQ_qv q.1 q.2.1 q.2.2
            unfold qQ; omega
          have hck := lQ_cS hL1 hK1 hbd hqk
          have hkk := lQ_kS hL1 hK1 hbd hqk
          have hgl : ∀ i (h : i < a.length), (a.map lv).getD i ([], 0) = lv a[i] := fun i h => getD_map h
          have hgq : ∀ i (h : i < x.length), (x.map qQ).getD i 0 = qQ x[i] := fun i h => getD_map h
          have hla : ∀ i (h : i < a.length), lv a[i] ∈ a.map lv := fun i h => List.mem_map_of_mem (List.getElem_mem h)
          obtain ⟨m, hm⟩ : ∃ m, m = min a.length x.length := ⟨_, rfl⟩
          rw [← hm]
          generalize a.map lv = ls at *
          generalize x.map qQ = q at *
          refine loop_inv (fun i : Nat => stL 119 [(0, .one (.t (eL cL a))), (1, aLQ x), (5, .one (.ptr 5 0)), (9, .one (.vec 44 3 0 n)), (11, .one (.ptr 11 0)), (12, litI .i64 i)]
            [(5, z3), (11, (cR (kS ls q i)).map .t), (44, cellsL cR (fnL n (cS ls q i)))]) (fun i => i ≤ m) (fun i => m - i) 0 ?_ (Nat.zero_le _) ?_
          · rw [show kS ls q 0 = 0 from rfl, show fnL n (cS ls q 0) = fnL n (fun _ => 0) from rfl]
            (refine gstep_list rfl ?_ ?_ ?_ ?_ <;> (try simp only [go_sem, tail_one, cellsL_refs]) <;> (try simp))
          · intro i hi
            by_cases hlt' : i < a.length
            · have hlt : ((i : Int) < (a.length : Int)) = True := eq_true (by omega)
              have hel : elemD cL a i = cL a[i] := elemD_lt hlt'
              by_cases c : i < x.length
              · have c' : ((i : Int) < (x.length : Int)) = True := eq_true (by omega)
                simp only [go_sem, hel, hlt, c']
                (repeat (refine And.intro (by omega) ?_))
                have o1 := f6_May' (by omega) (by omega) (ha _ (List.getElem_mem hlt'))
                have hex : elemD cQ x i = cQ x[i] := elemD_lt c
                have hq := hxk _ (List.getElem_mem c)
                have lc := lQ_qv x[i].1 x[i].2.1 x[i].2.2
                have wf := WF_lv a[i]
                have bf := hbd _ (hla i hlt')
                have hfi := hfn _ (hla i hlt')
                have hk1 : kS ls q (i + 1) = kS ls q i + ((lv a[i]).2 : Rat) * qQ x[i] := by show kS ls q i + ((ls.getD i ([], 0)).2 : Rat) * q.getD i 0 = _; rw [hgl i hlt', hgq i c]
                have hc1 : ∀ v, cS ls q (i + 1) v = cS ls q i v + (coM (lv a[i]).1 v : Rat) * qQ x[i] := fun v => by show cS ls q i v + (coM (ls.getD i ([], 0)).1 v : Rat) * q.getD i 0 = _; rw [hgl i hlt', hgq i c]
                have hki := hkk i
                have hci := fun v => hck v i
                have hmul : i * (L + K + 1) ≤ A * (L + K + 1) := Nat.mul_le_mul_right _ (by omega)
                unfold qQ at hk1 hc1
                generalize a[i] = l at *
                generalize lv l = f at *
                generalize x[i] = w at *
                generalize kS ls q i = k0 at *
                generalize hkk1 : kS ls q (i + 1) = k1 at *
                generalize cS ls q i = s0 at *
                have hmr : ∀ p : Int, lN p ≤ L → PCall Tryz.prog 22 [eQ (p : Rat), gQ w.1 w.2.1 w.2.2] (eQ ((p : Rat) * qv w.1 w.2.1 w.2.2)) := fun p hp => by
                  have lp := lQ_int p
                  have := r_MulRat (decide ((p : Rat).num < 0)) (dig (p : Rat).num.natAbs) (dig (p : Rat).den) w.1 w.2.1 w.2.2 (by have := lQ_num (p : Rat); unfold lN at this; omega) (by have := lQ_den (p : Rat); rw [lN_nat'] at this; omega) (by omega) (by omega)
                  rwa [qv_eQ] at this
                generalize hr : qv w.1 w.2.1 w.2.2 = r at *
                have lf := lQ_int f.2
                have lf2 := bf.2.2
                have o3 := r_RatInt_e f.2 (by omega)
                have o4 := hmr f.2 lf2
                have lm := lQ_mul (f.2 : Rat) r
                have o5 := r_AddRat_e k0 ((f.2 : Rat) * r) (by omega) (by omega)
                rw [← hk1] at o5
                refine call_pure o1 rfl ?_
                simp only [go_sem]
                (repeat (refine And.intro (by omega) ?_))
                refine regA_by 0 rfl ?_
                simp only [go_sem]
                refine call_pure o3 rfl ?_
                simp only [go_sem, hex, c']
                (repeat (refine And.intro (by omega) ?_))
                ((repeat (refine regA_by 0 rfl ?_; simp only [go_sem])); refine call_pure (o4) rfl ?_; simp only [go_sem]; (repeat (refine regA_by 0 rfl ?_; simp only [go_sem])); refine call_pure (o5) rfl ?_; simp only [go_sem]; (repeat (refine regA_by 0 rfl ?_; simp only [go_sem])))
                have hfl := bf.1
                obtain ⟨G, hG⟩ : ∃ G : Nat → Nat → Rat, ∀ j v, G j v = s0 v + (coM (f.1.take j) v : Rat) * r := ⟨_, fun _ _ => rfl⟩
                refine loop_inv (fun j : Nat => stL 119 [(0, .one (.t (eL cL a))), (1, aLQ x), (5, .one (.ptr 5 0)), (9, .one (.vec 44 3 0 n)), (11, .one (.ptr 11 0)), (12, litI .i64 i), (13, .one (.ptr 13 0)), (14, litI .i64 j)]
                  [(5, z3), (11, (cR k1).map .t), (13, (cF f).map .t), (44, cellsL cR (fnL n (G j)))]) (fun j => j ≤ f.1.length) (fun j => f.1.length - j) 0 ?_ (Nat.zero_le _) ?_
                · rw [show G 0 = s0 from funext fun v => by rw [hG, List.take_zero]; show s0 v + ((0 : Int) : Rat) * r = s0 v; rw [Rat.intCast_zero, Rat.zero_mul, Rat.add_zero]]
                  (refine gstep_list rfl ?_ ?_ ?_ ?_ <;> (try simp only [go_sem, tail_one, cellsL_refs]) <;> (try simp))
                · intro j hj
                  simp only [go_sem]
                  refine CondR_if (fun hlt2 => ?_) (fun hge2 => ?_)
                  · have hjl : j < f.1.length := by omega
                    have he2 : elemD cMn f.1 j = cMn f.1[j] := elemD_lt hjl
                    have hm1 := hfi _ (List.getElem_mem hjl)
                    have hm2 := (bf.2.1 _ (List.getElem_mem hjl)).2
                    have hct := coM_take wf hjl
                    have hc0 := coM_take_at wf hjl
                    have hgm : G j f.1[j].1 = s0 f.1[j].1 := by rw [hG, hc0, Rat.intCast_zero, Rat.zero_mul, Rat.add_zero]
                    have hg' : G (j + 1) = (fun v => if v = f.1[j].1 then s0 f.1[j].1 + (f.1[j].2 : Rat) * r else G j v) := funext fun v => by
                      by_cases e : v = f.1[j].1
                      · rw [if_pos e, e, hG, hct, if_pos rfl]
                      · rw [if_neg e, hG, hG, hct, if_neg e]
                    generalize f.1[j] = w2 at *
                    have lw := lQ_int w2.2
                    have p1 := r_RatInt_e w2.2 (by omega)
                    have p2 := hmr w2.2 hm2
                    have lx := lQ_mul (w2.2 : Rat) r
                    have p3 := r_AddRat_e (s0 w2.1) ((w2.2 : Rat) * r) (by have := hci w2.1; omega) (by omega)
                    have hcs := cR_set (n := n) (g := G j) hm1 (y := s0 w2.1 + (w2.2 : Rat) * r)
                    rw [← hg'] at hcs
                    have hat := cR_at (ys := fnL n (G j)) (i := w2.1) (by rw [fnL_len]; exact hm1)
                    rw [fnL_get, hgm] at hat
                    have hlt3 : ((w2.1 : Int) < (n : Int)) = True := eq_true (by omega)
                    simp only [go_sem, he2, hlt2]
                    (repeat (refine And.intro (by omega) ?_))
                    refine regA_by 0 rfl ?_
                    simp only [go_sem, hlt2, he2, hlt3, cR_clen, fnL_len, hat]
                    (repeat (refine And.intro (by omega) ?_))
                    refine call_pure p1 rfl ?_
                    simp only [go_sem, hex, c']
                    (repeat (refine And.intro (by omega) ?_))
                    ((repeat (refine regA_by 0 rfl ?_; simp only [go_sem])); refine call_pure (p2) rfl ?_; simp only [go_sem]; (repeat (refine regA_by 0 rfl ?_; simp only [go_sem])); refine call_pure (p3) rfl ?_; simp only [go_sem]; (repeat (refine regA_by 0 rfl ?_; simp only [go_sem])))
                    simp only [go_sem, hlt3, cR_clen, fnL_len, hcs]
                    (repeat (refine And.intro (by omega) ?_))
                    refine ⟨j + 1, hjl, (by show f.1.length - (j + 1) < f.1.length - j; omega), ?_⟩
                    (refine gstep_list rfl ?_ ?_ ?_ ?_ <;> (try simp only [go_sem, tail_one, cellsL_refs, hcs, wrap_i64 (n := (j : Int) + 1) (by omega) (by omega)]) <;> (try simp))
                  · obtain rfl : j = f.1.length := by omega
                    rw [show G f.1.length = cS ls q (i + 1) from funext fun v => by rw [hG, List.take_length, hc1]]
                    simp only [go_sem]
                    refine ⟨i + 1, by omega, (by show m - (i + 1) < m - i; omega), ?_⟩
                    (refine gstep_list rfl ?_ ?_ ?_ ?_ <;> (try simp only [go_sem, tail_one, cellsL_refs, hkk1, wrap_i64 (n := (i : Int) + 1) (by omega) (by omega)]) <;> (try simp))
              · have c' : ((i : Int) < (x.length : Int)) = False := eq_false (by omega)
                obtain rfl : m = i := by omega
                simp only [go_sem, hlt, c']
                refine regA_by 0 rfl ?_
                simp only [go_sem]
                exact fz_tup2 (fz_vecA cR_len (by simp only [go_sem]) (by rw [fnL_len])) (fz_agg3 .t .t .t)
            · have hlt : ((i : Int) < (a.length : Int)) = False := eq_false (by omega)
              obtain rfl : m = i := by omega
              simp only [go_sem, hlt]
              refine regA_by 0 rfl ?_
              simp only [go_sem]
              exact fz_tup2 (fz_vecA cR_len (by simp only [go_sem]) (by rw [fnL_len])) (fz_agg3 .t .t .t)
end Go.Proofs.YtfgejnedaijjiaaGreat
