/- At every input the call answers true and leaves its arguments as they were; no conditions. -/
import Derived.Test.YtfgejnedaijjiaaGreatDc
import Derived.Test.YtfgejnedaijjiaaGreatMh
set_option linter.unusedSimpArgs false
set_option linter.unusedVariables false
namespace Go.Proofs.YtfgejnedaijjiaaGreat
open Go Go.Abs
set_option maxHeartbeats 32000000
/-- The solver that forms make. -/
def aOf (ls : List Fm) (i j : Nat) : Rat := (coM (ls.getD i ([], 0)).1 j : Rat)
def moF (ls : List Fm) (i : Nat) : Rat := ((-(ls.getD i ([], 0)).2 : Int) : Rat)
def madeX (ls : List Fm) (n : Nat) : SX := startX (aOf ls) n ls.length (moF ls)
theorem rowsC_jC {b sz len n c : Nat} (h : ∀ i, i < n → b + i ≠ c) : (rowsC b sz len n).map (jC c) = rowsC b sz len n := by
  unfold rowsC
  rw [List.map_map]
  exact List.map_congr_left fun i hi => by show (if b + i = c then C.t .junk else C.vec (b + i) sz 0 len) = _; rw [if_neg (h i (List.mem_range.1 hi))]
theorem rowsC_map {b sz len n : Nat} {g : C → C} (h : ∀ i, i < n → g (.vec (b + i) sz 0 len) = .vec (b + i) sz 0 len) : (rowsC b sz len n).map g = rowsC b sz len n := by
  unfold rowsC
  rw [List.map_map]
  exact List.map_congr_left fun i hi => h i (List.mem_range.1 hi)
theorem jC_row {b i len : Nat} (h : b < 900100) : jC b (C.vec (900100 + i) 3 0 len) = C.vec (900100 + i) 3 0 len := by show (if 900100 + i = b then _ else _) = _; rw [if_neg (by omega)]
theorem rn_row {m i len : Nat} : rnC (mvN 66 (900100 + m)) (C.vec (900100 + i) 3 0 len) = C.vec (900100 + i) 3 0 len := by show C.vec (if 900100 + i = 66 then _ else _) _ _ _ = _; rw [if_neg (by omega)]
theorem fam10 {i t : Nat} (h : t < 900100) : (t = 900100 + i) = False := eq_false (by omega)
theorem fam9 {i t : Nat} (h : t < 900100) : (900100 + i = t) = False := eq_false (by omega)
set_option maxRecDepth 100000 in
theorem s_made (a : List LL) (n : Nat) {N L : Nat} (hd : n + a.length < 90000) (hN : N ≤ 1000000) (hL : L ≤ 1000) (ha : ∀ l ∈ a, BL N L l) :
    NCall Tryz.prog 52 [.one (eL cL a), tI .i64 n] (lookH (slvL 900000 (madeX (a.map lv) n))) (.one (.ptr 900000 0)) := by
  refine ncall_of_wpA mixed Tryz.call52 Tryz.func52 rfl Tryz.ntmps52 Tryz.results52 (by simp) (by decide) ?_ ?_ ?_
  · exact cl_of_refs (slv_refs 900000 _)
  · show lookH (slvL 900000 _) 900000 ≠ none
    rw [Ne, lookH_dom, slv_keys]
    intro h; exact h (by simp)
  · have z := s_zero
    simp only [go_sem]
    refine loop_inv (fun i : Nat => stL 139 [(0, .one (.t (eL cL a))), (1, litI .i64 n), (5, .one (.ptr 900000 0)), (17, litI .i64 n), (18, litI .i64 i)]
      (accE 900002 cI1 (fnG i fun j => j) ++ [(900000, [(.t (.seq (some true) [])), accC 900002 1 (fnG i fun j => j), (.t (.seq (some true) [])), .t (.lit (.int .i64 (n : Int))), (.t (.seq (some true) [])), (.t (.seq (some true) []))])])) (fun i => i ≤ n) (fun i => n - i) 0 ?_ (Nat.zero_le _) ?_
    · rw [fnG_zero]
      refine GStep.trans (gstep_mv (b := 16) (b' := 900000) (by simp only [go_sem]) (by decide) (by decide)) ?_
      (refine gstep_list rfl ?_ ?_ ?_ ?_ <;> (try simp only [go_sem, tail_one]) <;> (try simp only [true_or, or_true, or_false, beq_self_eq_true, and_self, true_and, and_true]))
    · intro i hi
      simp only [go_sem]
      refine CondR_if (fun hlt => ?_) (fun hge => ?_)
      · have hlt' : i < n := by omega
        have hnx := fnG_succ (n := i) (g := fun j : Nat => j)
        have hle : (fnG i fun j : Nat => j).length = i := fnG_len
        generalize hl : (fnG i fun j : Nat => j) = xs at *
        simp only [go_sem, hlt]
        refine opA_app_acc (sz := 1) (bytes := 8) (by simp only [go_sem, AppTy] <;> decide) cI1_len xs [i] (b := 900002) (by simp only [go_sem] <;> rfl) (by simp only [go_sem] <;> rfl) (by simp only [go_sem] <;> rfl) rfl (by simp) (by simp only [List.length_cons, List.length_nil] at *; omega) (by decide) ?_
        simp only [go_sem]
        refine ⟨i + 1, hlt', (by show n - (i + 1) < n - i; omega), ?_⟩
        (refine gstep_list rfl ?_ ?_ ?_ ?_ <;> (try simp only [go_sem, tail_one, hnx, wrap_i64 (n := (i : Int) + 1) (by omega) (by omega)]) <;> (try simp))
      · obtain rfl : n = i := by omega
        have hw1 : IntKind.i64.wrap ((n : Int) + (a.length : Int)) = ((n + a.length : Nat) : Int) := by rw [wrap_i64 (by omega) (by omega)]; omega
        obtain ⟨M, hM⟩ : ∃ M, M = n + a.length := ⟨_, rfl⟩
        rw [← hM] at hw1
        simp only [go_sem, hw1]
        (repeat (refine And.intro (by omega) ?_))
        refine loop_inv (fun k : Nat => stL 139 [(0, .one (.t (eL cL a))), (1, litI .i64 n), (5, .one (.ptr 900000 0)), (45, .one (.vec 900005 3 0 M)), (46, litI .i64 M), (47, litI .i64 k)]
          (accE 900002 cI1 (fnG n fun j => j) ++ [(900000, [.t (.seq (some true) []), accC 900002 1 (fnG n fun j => j), .t (.seq (some true) []), .t (.lit (.int .i64 (n : Int))), .t (.seq (some true) []), .vec 900005 3 0 M]), (900005, cellsL cZ (((fnG M fun _ => (0 : Rat)).take k).map some ++ List.replicate (M - k) none))])) (fun k => k ≤ M) (fun k => M - k) 0 ?_ (Nat.zero_le _) ?_
        · rw [List.take_zero, Nat.sub_zero, List.map_nil, List.nil_append]
          refine GStep.trans (gstep_weakH 39 (cs := repl M z3) (by simp only [go_sem] <;> rfl) (weakL_z3 _)) ?_
          refine GStep.trans (gstep_mv (b := 39) (b' := 900005) (by simp only [go_sem]) (by decide) (by decide)) ?_
          (refine gstep_list rfl ?_ ?_ ?_ ?_ <;> (try simp only [go_sem, tail_one, cellsL_refs]) <;> (try simp))
        · intro k hk
          simp only [go_sem]
          refine CondR_if (fun hlk => ?_) (fun hgk => ?_)
          · have hlk' : k < M := by omega
            have hlen : (fnG M fun _ => (0 : Rat)).length = M := fnG_len
            have hys : (((fnG M fun _ => (0 : Rat)).take k).map some ++ List.replicate (M - k) none).length = M := by simp [fnG_len]; omega
            have hnx := fill_next (l := fnG M fun _ => (0 : Rat)) (n := M) (i := k) (by rw [hlen]; exact hlk') (by omega)
            rw [fnG_get] at hnx
            generalize ((fnG M fun _ => (0 : Rat)).take k).map some ++ List.replicate (M - k) none = ys at *
            have hsd := cZ_sd (ys := ys) (i := k) (by omega) (q := 0)
            rw [hnx] at hsd
            simp only [go_sem, hlk]
            refine regA_by 0 rfl ?_
            simp only [go_sem, hlk]
            ((repeat (refine regA_by 0 rfl ?_; simp only [go_sem, hlk])); refine call_pure (z) rfl ?_; simp only [go_sem, hlk]; (repeat (refine regA_by 0 rfl ?_; simp only [go_sem, hlk])))
            simp only [go_sem, hlk, cZ_clen]
            (repeat (refine And.intro (by omega) ?_))
            refine ⟨k + 1, hlk', (by show M - (k + 1) < M - k; omega), ?_⟩
            (refine gstep_list rfl ?_ ?_ ?_ ?_ <;> (try simp only [go_sem, tail_one, cellsL_refs, hsd, wrap_i64 (n := (k : Int) + 1) (by omega) (by omega)]) <;> (try simp))
          · obtain rfl : M = k := by omega
            rw [List.take_of_length_le (by rw [fnG_len]; exact Nat.le_refl _), Nat.sub_self, List.replicate_zero, List.append_nil, cZ_map]
            -- LOOP C
            obtain ⟨ls, hls⟩ : ∃ ls, ls = a.map lv := ⟨_, rfl⟩
            obtain ⟨Xr, hXr⟩ : ∃ Xr : Nat → List Nat, Xr = fun i => fnG i (fun j => n + j) := ⟨_, rfl⟩
            obtain ⟨Xm, hXm⟩ : ∃ Xm : Nat → List Rat, Xm = fun i => fnG i (moF ls) := ⟨_, rfl⟩
            obtain ⟨Fa, hFa⟩ : ∃ Fa : Nat → List Rat, Fa = fun m => fnG n (aOf ls m) := ⟨_, rfl⟩
            have hXr0 : Xr 0 = [] := by rw [hXr]; rfl
            have hXm0 : Xm 0 = [] := by rw [hXm]; rfl
            have hXrl : ∀ i, (Xr i).length = i := fun i => by rw [hXr]; exact fnG_len
            have hXml : ∀ i, (Xm i).length = i := fun i => by rw [hXm]; exact fnG_len
            have hXrS : ∀ i, Xr (i + 1) = Xr i ++ [n + i] := fun i => by rw [hXr]; exact fnG_succ
            have hXmS : ∀ i, Xm (i + 1) = Xm i ++ [moF ls i] := fun i => by rw [hXm]; exact fnG_succ
            generalize hxc : (fnG n fun j : Nat => j) = xc at *
            have hxz : ∃ xz, xz = cellsL cR (fnG M fun _ => (0 : Rat)) := ⟨_, rfl⟩
            obtain ⟨zs, hzs⟩ : ∃ zs, zs = fnG M fun _ => (0 : Rat) := ⟨_, rfl⟩
            rw [← hzs]
            simp only [go_sem]
            refine loop_inv (fun i : Nat => stL 139 [(0, .one (.t (eL cL a))), (1, litI .i64 n), (5, .one (.ptr 900000 0)), (58, .one (.t (eL cL a))), (59, litI .i64 a.length), (60, litI .i64 i)]
              (famE 900100 cR Fa i ++ (accE 900001 cI1 (Xr i) ++ (accE 900002 cI1 xc ++ (cvE 900003 i (rowsC 900100 3 n i) ++ (accE 900004 cR (Xm i) ++ [(900000, [accC 900001 1 (Xr i), accC 900002 1 xc, cvC 900003 i, .t (.lit (.int .i64 (n : Int))), accC 900004 3 (Xm i), .vec 900005 3 0 M]), (900005, cellsL cR zs)])))))) (fun i => i ≤ a.length) (fun i => a.length - i) 0 ?_ (Nat.zero_le _) ?_
            · rw [hXr0, hXm0]
              (refine gstep_list rfl ?_ ?_ ?_ ?_ <;> (try simp only [go_sem, tail_one, cellsL_refs]) <;> (try simp))
            · intro m hm
              simp only [go_sem]
              refine CondR_if (fun hlm => ?_) (fun hgm => ?_)
              · have hlm' : m < a.length := by omega
                have hel : elemD cL a m = cL a[m] := elemD_lt hlm'
                have hb := ha _ (List.getElem_mem hlm')
                have hbd := Bd_lv hb
                have hwf := WF_lv a[m]
                have hhe := s_held a[m] hN (by omega) hb
                have hget : ls.getD m ([], 0) = lv a[m] := by rw [hls, List.getD_eq_getElem?_getD, List.getElem?_map, List.getElem?_eq_getElem hlm']; rfl
                have hFam : Fa m = fnG n fun v => (coM (lv a[m]).1 v : Rat) := by
                  rw [hFa]; show fnG n (aOf ls m) = _
                  exact fnG_congr fun v _ => by unfold aOf; rw [hget]
                have hmo : moF ls m = ((-(lv a[m]).2 : Int) : Rat) := by unfold moF; rw [hget]
                have hrl := hXrl m
                have hml := hXml m
                generalize a[m] = l at *
                generalize lv l = f at *
                simp only [go_sem, hel, hlm]
                refine ⟨by omega, by omega, ?_⟩
                have hw2 : IntKind.i64.wrap ((n : Int) + (m : Int)) = ((n + m : Nat) : Int) := by rw [wrap_i64 (by omega) (by omega)]; omega
                refine loop_inv (fun j : Nat => stL 139 [(0, .one (.t (eL cL a))), (1, litI .i64 n), (5, .one (.ptr 900000 0)), (58, .one (.t (eL cL a))), (59, litI .i64 a.length), (60, litI .i64 m), (8, litI .i64 m), (9, .one (.ptr 9 0)), (10, .one (.vec 66 3 0 n)), (67, .one (.vec 66 3 0 n)), (68, litI .i64 n), (69, litI .i64 j)]
                  (famE 900100 cR Fa m ++ (accE 900001 cI1 (Xr m) ++ (accE 900002 cI1 xc ++ (cvE 900003 m (rowsC 900100 3 n m) ++ (accE 900004 cR (Xm m) ++ [(900000, [accC 900001 1 (Xr m), accC 900002 1 xc, cvC 900003 m, .t (.lit (.int .i64 (n : Int))), accC 900004 3 (Xm m), .vec 900005 3 0 M]), (900005, cellsL cR zs), (9, (cL l).map .t), (66, cellsL cZ (((fnG n fun _ => (0 : Rat)).take j).map some ++ List.replicate (n - j) none))])))))) (fun j => j ≤ n) (fun j => n - j) 0 ?_ (Nat.zero_le _) ?_
                · rw [List.take_zero, Nat.sub_zero, List.map_nil, List.nil_append]
                  refine GStep.trans (gstep_weakH 66 (cs := repl n z3) (by simp only [go_sem] <;> rfl) (weakL_z3 _)) ?_
                  (refine gstep_list rfl ?_ ?_ ?_ ?_ <;> (try simp only [go_sem, tail_one, cellsL_refs, fam9]) <;> (try simp))
                  all_goals omega
                · intro j hj
                  simp only [go_sem]
                  refine CondR_if (fun hlj => ?_) (fun hgj => ?_)
                  · have hlj' : j < n := by omega
                    have hlen : (fnG n fun _ => (0 : Rat)).length = n := fnG_len
                    have hys : (((fnG n fun _ => (0 : Rat)).take j).map some ++ List.replicate (n - j) none).length = n := by simp [fnG_len]; omega
                    have hnx := fill_next (l := fnG n fun _ => (0 : Rat)) (n := n) (i := j) (by rw [hlen]; exact hlj') (by omega)
                    rw [fnG_get] at hnx
                    generalize ((fnG n fun _ => (0 : Rat)).take j).map some ++ List.replicate (n - j) none = ys at *
                    have hsd := cZ_sd (ys := ys) (i := j) (by omega) (q := 0)
                    rw [hnx] at hsd
                    simp only [go_sem, hlj]
                    ((repeat (refine regA_by 0 rfl ?_; simp only [go_sem, hlj])); refine call_pure (z) rfl ?_; simp only [go_sem, hlj]; (repeat (refine regA_by 0 rfl ?_; simp only [go_sem, hlj])))
                    simp only [go_sem, hlj, cZ_clen]
                    (repeat (refine And.intro (by omega) ?_))
                    refine ⟨j + 1, hlj', (by show n - (j + 1) < n - j; omega), ?_⟩
                    (refine gstep_list rfl ?_ ?_ ?_ ?_ <;> (try simp only [go_sem, tail_one, cellsL_refs, hsd, fam9, wrap_i64 (n := (j : Int) + 1) (by omega) (by omega)]) <;> (try simp))
                    all_goals omega
                  · obtain rfl : n = j := by omega
                    rw [List.take_of_length_le (by rw [fnG_len]; exact Nat.le_refl _), Nat.sub_self, List.replicate_zero, List.append_nil, cZ_map]
                    have h00 : fnG n (fun _ => (0 : Rat)) = fnG n (fun v => (coM (f.1.take 0) v : Rat)) := fnG_congr fun v _ => rfl
                    rw [h00]
                    simp only [go_sem]
                    ((repeat (refine regA_by 0 rfl ?_; simp only [go_sem])); refine call_pure (hhe) rfl ?_; simp only [go_sem]; (repeat (refine regA_by 0 rfl ?_; simp only [go_sem])))
                    have hfl := hbd.1
                    refine loop_inv (fun t : Nat => stL 139 [(0, .one (.t (eL cL a))), (1, litI .i64 n), (5, .one (.ptr 900000 0)), (58, .one (.t (eL cL a))), (59, litI .i64 a.length), (60, litI .i64 m), (8, litI .i64 m), (9, .one (.ptr 9 0)), (10, .one (.vec 66 3 0 n)), (80, .one (.t (eL cMn f.1))), (81, litI .i64 f.1.length), (82, litI .i64 t)]
                      (famE 900100 cR Fa m ++ (accE 900001 cI1 (Xr m) ++ (accE 900002 cI1 xc ++ (cvE 900003 m (rowsC 900100 3 n m) ++ (accE 900004 cR (Xm m) ++ [(900000, [accC 900001 1 (Xr m), accC 900002 1 xc, cvC 900003 m, .t (.lit (.int .i64 (n : Int))), accC 900004 3 (Xm m), .vec 900005 3 0 M]), (900005, cellsL cR zs), (9, (cF f).map .t), (66, cellsL cR (fnG n fun v => (coM (f.1.take t) v : Rat)))])))))) (fun t => t ≤ f.1.length) (fun t => f.1.length - t) 0 ?_ (Nat.zero_le _) ?_
                    · (refine gstep_list rfl ?_ ?_ ?_ ?_ <;> (try simp only [go_sem, tail_one, cellsL_refs, fam9]) <;> (try simp))
                      all_goals omega
                    · intro t ht
                      simp only [go_sem]
                      refine CondR_if (fun hlt => ?_) (fun hge => ?_)
                      · have hlt' : t < f.1.length := by omega
                        have helm : elemD cMn f.1 t = cMn f.1[t] := elemD_lt hlt'
                        have hmm := hbd.2.1 _ (List.getElem_mem hlt')
                        have hco := coM_take hwf hlt'
                        generalize f.1[t] = mm at *
                        simp only [go_sem, helm, hlt]
                        (repeat (refine And.intro (by omega) ?_))
                        by_cases c1 : mm.1 < n
                        · have c1' : ((mm.1 : Int) < (n : Int)) = True := eq_true (by omega)
                          have c2' : ((0 : Int) ≤ (mm.1 : Int)) = True := eq_true (by omega)
                          have o1 := q_Of1_e mm.2 (by omega)
                          have sd := cG_sd (n := n) (g := fun v => (coM (f.1.take t) v : Rat)) c1 (q := (mm.2 : Rat))
                          have hfn : fnG n (fun v => if v = mm.1 then (mm.2 : Rat) else (coM (f.1.take t) v : Rat)) = fnG n (fun v => (coM (f.1.take (t + 1)) v : Rat)) := fnG_congr fun v _ => by
                            rw [hco v]; split <;> rfl
                          rw [hfn] at sd
                          have ln3 : ∀ {g : Nat → Rat}, (cellsL cR (fnG n g)).length = n * 3 := cG_len3
                          simp only [go_sem, c1']
                          refine regA_by 0 rfl ?_
                          simp only [go_sem, c1', c2']
                          ((repeat (refine regA_by 0 rfl ?_; simp only [go_sem, c1', c2'])); refine call_pure (o1) rfl ?_; simp only [go_sem, c1', c2']; (repeat (refine regA_by 0 rfl ?_; simp only [go_sem, c1', c2'])))
                          simp only [go_sem, ln3, c1', c2']
                          (repeat (refine And.intro (by omega) ?_))
                          refine ⟨t + 1, hlt', (by show f.1.length - (t + 1) < f.1.length - t; omega), ?_⟩
                          (refine gstep_list rfl ?_ ?_ ?_ ?_ <;> (try simp only [go_sem, tail_one, cellsL_refs, fam9, sd, wrap_i64 (n := (t : Int) + 1) (by omega) (by omega)]) <;> (try simp))
                          all_goals omega
                        · have c1' : ((mm.1 : Int) < (n : Int)) = False := eq_false (by omega)
                          have hfn : fnG n (fun v => (coM (f.1.take (t + 1)) v : Rat)) = fnG n (fun v => (coM (f.1.take t) v : Rat)) := fnG_congr fun v hv => by
                            rw [hco v, if_neg (by omega)]
                          simp only [go_sem, c1']
                          refine ⟨t + 1, hlt', (by show f.1.length - (t + 1) < f.1.length - t; omega), ?_⟩
                          (refine gstep_list rfl ?_ ?_ ?_ ?_ <;> (try simp only [go_sem, tail_one, cellsL_refs, fam9, hfn, wrap_i64 (n := (t : Int) + 1) (by omega) (by omega)]) <;> (try simp))
                          all_goals omega
                      · obtain rfl : t = f.1.length := by omega
                        rw [List.take_length, ← hFam]
                        have hjr : (rowsC 900100 3 n m).map (jC 900003) = rowsC 900100 3 n m := rowsC_jC fun i hi => by omega
                        have hng := w_Neg_e f.2 (by have := hbd.2.2; omega)
                        have hof := q_Of1_e (-f.2) (by have := hbd.2.2; rw [lN_neg]; omega)
                        rw [← hmo] at hof
                        have hrS := hXrS m
                        have hmS := hXmS m
                        simp only [go_sem]
                        refine opA_build 105 1 [.t (.seq (some true) [])] (cs := [.vec 66 3 0 n]) rfl (Nat.le_refl _) (by simp only [go_sem] <;> decide) (by simp only [go_sem] <;> rfl) (by simp only [go_sem, fam9]) (by decide) ?_
                        simp only [go_sem]
                        refine opA_app_cv (b := 900003) (n := m) (dy := 105) (cs := rowsC 900100 3 n m) (c := .vec 66 3 0 n) (bytes := 24) (by simp only [go_sem, AppTy] <;> decide) (by simp only [go_sem] <;> rfl) (by simp only [go_sem, fam9] <;> (by_cases h : m = 0 <;> simp [h])) rowsC_len hjr (by simp only [go_sem]) (by simp only [go_sem] <;> rfl) (by simp only [go_sem] <;> rfl) (by omega) (by decide) (by decide) ?_
                        simp only [go_sem, fam9]
                        refine opA_app_acc (sz := 1) (bytes := 8) (by simp only [go_sem, AppTy] <;> decide) cI1_len (Xr m) [n + m] (b := 900001) (by simp only [go_sem] <;> rfl) (by simp only [go_sem, fam9] <;> rfl) (by simp only [go_sem, hw2] <;> rfl) rfl (by simp) (by simp only [List.length_cons, List.length_nil] at *; omega) (by decide) ?_
                        simp only [go_sem, fam9]
                        refine regA_any 14 rfl ?_
                        refine AnyS.take' 0 rfl (by decide +kernel) (by decide +kernel) (by decide +kernel) (by simp only [go_sem]) (pureAt_move rfl) ?_
                        refine AnyS.ord [0] 0 [1, 2, 3, 4, 5, 6, 7, 8, 9, 10, 11, 12, 13] (by decide +kernel) (by decide +kernel) (by decide +kernel) (by decide +kernel) (by decide +kernel) (by decide) ?_
                        simp only [opsAt, List.filterMap_cons, List.filterMap_nil, List.getElem?_toArray, List.getElem?_cons_succ, List.getElem?_cons_zero]
                        simp only [go_sem, fam9]
                        ((repeat (refine regA_by 0 rfl ?_; simp only [go_sem])); refine call_pure (hng) rfl ?_; simp only [go_sem]; (repeat (refine regA_by 0 rfl ?_; simp only [go_sem])); refine call_pure (hof) rfl ?_; simp only [go_sem]; (repeat (refine regA_by 0 rfl ?_; simp only [go_sem])))
                        refine opA_app_acc (sz := 3) (bytes := 56) (by simp only [go_sem, AppTy] <;> decide) cR_len (Xm m) [moF ls m] (b := 900004) (by simp only [go_sem] <;> rfl) (by simp only [go_sem, fam9] <;> rfl) (by simp only [go_sem] <;> rfl) rfl (by simp) (by simp only [List.length_cons, List.length_nil] at *; omega) (by decide) ?_
                        simp only [go_sem, fam9]
                        have hmv : (rowsC 900100 3 n m ++ [C.vec 66 3 0 n]).map (rnC (mvN 66 (900100 + m))) = rowsC 900100 3 n (m + 1) := by
                          rw [List.map_append, rowsC_rn (fun i hi => by show (if 900100 + i = 66 then _ else _) = _; rw [if_neg (by omega)]), ← rowsC_succ]
                          show _ ++ [C.vec (if 66 = 66 then 900100 + m else 66) 3 0 n] = _
                          rw [if_pos rfl]
                        refine ⟨m + 1, hlm', (by show a.length - (m + 1) < a.length - m; omega), ?_⟩
                        refine GStep.trans (gstep_mv (b := 66) (b' := 900100 + m) (by simp only [go_sem, fam9] <;> simp) (by show _ < 1000000; omega) (by omega)) ?_
                        (refine gstep_list rfl ?_ ?_ ?_ ?_ <;> (try simp only [go_sem, tail_one, cellsL_refs, fam9, fam10, hmv, hrS, hmS, jC_cells, wrap_i64 (n := (m : Int) + 1) (by omega) (by omega)]) <;> (try simp))
                        refine ⟨fun i hi => ?_, by rw [rowsC_map fun i hi => by rw [Function.comp_apply, Function.comp_apply, jC_row (by decide), jC_row (by decide), rn_row], rowsC_succ]⟩
                        by_cases hie : i = m
                        · subst hie; rw [if_pos rfl]
                        · rw [if_neg hie, if_pos (by omega)]; rw [← List.map_map, ← List.map_map, ← List.map_map, jC_cells, jC_cells, jC_cells, rnC_cells]
              · obtain rfl : m = a.length := by omega
                simp only [go_sem]
                have hlist : famE 900100 cR Fa a.length ++ (accE 900001 cI1 (Xr a.length) ++ (accE 900002 cI1 xc ++ (cvE 900003 a.length (rowsC 900100 3 n a.length) ++ (accE 900004 cR (Xm a.length) ++ [(900000, [accC 900001 1 (Xr a.length), accC 900002 1 xc, cvC 900003 a.length, .t (.lit (.int .i64 (n : Int))), accC 900004 3 (Xm a.length), .vec 900005 3 0 M]), (900005, cellsL cR zs)])))) = slvL 900000 (madeX (a.map lv) n) := by
                  have hll : ls.length = a.length := by rw [hls, List.length_map]
                  subst hxc
                  rw [hzs, hM, hFa, hXr, hXm, ← hls]
                  unfold slvL slv0 madeX startX
                  simp only [hll]
                refine ⟨.inr rfl, fun x hx => ?_, rfl, fun b cs h => ?_⟩
                · simp only [List.mem_singleton] at hx
                  subst hx
                  exact trivial
                · rw [← hlist] at h
                  exact h
end Go.Proofs.YtfgejnedaijjiaaGreat
namespace Go.Proofs.YtfgejnedaijjiaaGreat
open Go Go.Abs
set_option maxHeartbeats 32000000
/-- What the solver tells where no step is left. -/
def solT (S : SX) : TV := match S.broken with
  | none => .tup [tLR (fnG S.n S.va), .one (.seq (some true) []), tB true]
  | some r => .tup [.one (.seq (some true) []), tLR (fnG S.R (outX S r S.n)), tB false]
theorem rnC_self (c : C) : rnC id c = c := by cases c <;> simp [rnC]
theorem madeX_inv (ls : List Fm) (n : Nat) : InvX (aOf ls) n ls.length (madeX ls n) := startX_inv _ _ _ _
theorem fnG_take {α : Type} {g : Nat → α} {n m : Nat} (h : n ≤ m) : (fnG m g).take n = fnG n g := by
  unfold fnG
  rw [← List.map_take, List.take_range, Nat.min_eq_left h]
set_option maxRecDepth 100000 in
theorem s_Solve (a : List LL) (n : Nat) {N L : Nat} (hn : n ≤ 40) (hd : a.length ≤ 1000) (hN : N ≤ 1000000) (hL : L ≤ 1000) (ha : ∀ l ∈ a, BL N L l) (T : Nat) (hr : runX (madeX (a.map lv) n) T) (hs : (itX (madeX (a.map lv) n) T).step = none)
    (hB : ∀ t, t ≤ T → BdX 400 (itX (madeX (a.map lv) n) t)) :
    PCall Tryz.prog 14 [.one (eL cL a), tI .i64 n] (solT (itX (madeX (a.map lv) n) T)) := by
  refine pcall_of_wpA mixed Tryz.call14 Tryz.func14 rfl Tryz.ntmps14 Tryz.results14 (by simp) (by decide) ?_
  have hmk := s_made a n (by omega) hN hL ha
  have hI0 := madeX_inv (a.map lv) n
  have hII := fun t => (itX_inv hI0 t).1
  rw [List.length_map] at hI0 hII
  generalize hS0 : madeX (a.map lv) n = S0 at *
  obtain ⟨R, hR⟩ : ∃ R, R = a.length := ⟨_, rfl⟩
  rw [← hR] at hI0 hII
  have m1 : (if (0 : Int) > (n : Int) then (0 : Int) else (n : Int)) = (n : Int) := if_neg (by omega)
  have m2 : (if (40 : Int) < (n : Int) then (40 : Int) else (n : Int)) = (n : Int) := by (split <;> omega)
  simp only [go_sem]
  refine opA_max rfl (by simp only [go_sem] <;> rfl) (by simp only [go_sem] <;> rfl) (Nat.le_refl _) ?_
  simp only [go_sem, m1]
  refine opA_min rfl (by simp only [go_sem] <;> rfl) (by simp only [go_sem] <;> rfl) (Nat.le_refl _) ?_
  simp only [go_sem, m2]
  refine call_nc (H' := lookH (slvE 900000 S0 [])) id (.inr rfl) hmk rfl (fun b hb => ?_) (fun _ _ _ _ h => h) (fun b cs hb => ?_) (fun x hx => ?_) ?_
  · have hk := slv_key (k := b) (S := S0) (b := 900000) (Classical.byContradiction fun h => hb (lookH_dom.2 h))
    have : S0.R = R := hI0.eR
    exact ⟨rfl, by show b < 1000000; omega⟩
  · rw [slvE_nil]
    show lookH (slvL 900000 S0) b = _
    rw [hb]
    rw [List.map_congr_left (g := id) fun c _ => rnC_self c, List.map_id]
  · rw [slvE_nil]
    show lookH (slvL 900000 S0) x = none
    exact Classical.byContradiction fun h => hx x h rfl
  have hst : runX S0 T → ∀ t, t < T → (itX S0 t).step ≠ none := fun h => h
  simp only [go_sem]
  refine loop_inv (fun t : Nat => stL 43 [(0, .one (.t (eL cL a))), (1, litI .i64 n), (7, .one (.ptr 900000 0))] (slvE 900000 (itX S0 t) [])) (fun t => t ≤ T) (fun t => T - t) 0 ?_ (Nat.zero_le _) ?_
  · (refine gstep_list rfl ?_ ?_ ?_ ?_ <;> (try simp only [go_sem, tail_one]) <;> (try simp only [true_or, or_true, or_false, beq_self_eq_true, and_self, true_and, and_true]))
    · rfl
    · exact of_eq_true AtS_self
  · intro t ht
    have hI := hII t
    have hBt := hB t ht
    have hnx := @itX_next S0 t
    have hst := hr t
    obtain ⟨S, hS⟩ : ∃ S, S = itX S0 t := ⟨_, rfl⟩
    rw [← hS] at hI hBt hnx hst
    have rb : ∀ {H}, AtS H 900000 S → RdC Tryz.prog 53 [.one (.ptr 900000 0)] H (litI .i64 (argI S.broken)) := fun hH => rd_slv 900000 (s_broken S (K := 400) (by omega) hBt) rfl (List.forall_mem_cons.2 ⟨slv_p, fun x hx => by cases hx⟩) hH
    simp only [go_sem]
    rw [← hS]
    refine call_rd2 (.inr rfl) (rb (by simp only [go_sem])) ?_
    by_cases hlt : t < T
    · obtain ⟨r, c, hb, hc, he, hrR, hcn, _, hrn, _⟩ := hI.stepd (hnx (hst hlt))
      have hn' := hI.en
      have hR' := hI.eR
      have c1 : ((r : Int) < 0) = False := eq_false (by omega)
      have c2 : ((c : Int) < 0) = False := eq_false (by omega)
      have rc : ∀ {H}, AtS H 900000 S → RdC Tryz.prog 55 [.one (.ptr 900000 0), litI .i64 r] H (litI .i64 (argI (S.column r))) := fun hH => rd_slv 900000 (s_column S r (K := 400) (by omega) hBt (by omega)) rfl (List.forall_mem_cons.2 ⟨slv_p, List.forall_mem_cons.2 ⟨trivial, fun x hx => by cases hx⟩⟩) hH
      rw [hb]
      rw [hc] at rc
      simp only [go_sem, c1]
      refine call_rd2 (.inr rfl) (rc (by simp only [go_sem])) ?_
      simp only [go_sem, c2]
      refine call_slv (S := S) (S' := S.piv r c) 900000 (.inr rfl) (s_lowers S hI r c (K := 400) (by omega) hBt (by omega) (by omega) (by omega)) rfl rfl rfl (List.forall_mem_cons.2 ⟨slv_p, List.forall_mem_cons.2 ⟨trivial, List.forall_mem_cons.2 ⟨trivial, fun x hx => by cases hx⟩⟩⟩) (by simp only [go_sem]) ?_
      simp only [go_sem]
      refine ⟨t + 1, hlt, (by show T - (t + 1) < T - t; omega), ?_⟩
      (refine gstep_list rfl ?_ ?_ ?_ ?_ <;> (try simp only [go_sem, tail_one]) <;> (try simp only [true_or, or_true, or_false, beq_self_eq_true, and_self, true_and, and_true]))
      rw [he]
      exact fun k _ cs h => by show (lookH _ _).or _ = _; rw [h]; rfl
    · obtain rfl : t = T := by omega
      rw [← hS]
      unfold solT
      cases hb : S.broken with
      | none =>
        have hnR : 900005 = 900000 + 5 := rfl
        have htr := treeOf_L (f := cR) (xs := fnG (S.n + S.R) S.va) cR_len
        rw [fnG_len] at htr
        have hrt := s_rats (fnG S.n S.va) (by rw [fnG_len]; have := hBt.dim; omega)
        simp only [go_sem]
        refine regA_g (gstep_frz (b := 900005) (sz := 3) (len := S.n + S.R) (by simp only [go_sem] <;> rfl) htr) ?_
        refine regA_by 0 rfl ?_
        have h0 : ((0 : Int) ≤ (S.n : Int)) = True := eq_true (by omega)
        have htk : (fnG (S.n + S.R) S.va).take S.n = fnG S.n S.va := fnG_take (by omega)
        simp only [go_sem, h0, htk]
        refine ⟨⟨Nat.zero_le _, by omega⟩, ?_⟩
        ((repeat (refine regA_by 0 rfl ?_; simp only [go_sem])); refine call_pure (hrt) rfl ?_; simp only [go_sem]; (repeat (refine regA_by 0 rfl ?_; simp only [go_sem])))
        exact fz_of rfl
      | some r =>
        have c1 : ((r : Int) < 0) = False := eq_false (by omega)
        have hcl : S.column r = none := by
          rw [← hS] at hs
          cases hc : S.column r with
          | none => rfl
          | some c => exfalso; simp [SX.step, hb, hc] at hs
        have hrR := (hI.broken hb).1
        have hrn := (hI.broken hb).2.1
        have hn' := hI.en
        have hR' := hI.eR
        have c2 : ((-1 : Int) < 0) = True := eq_true (by omega)
        have rc : ∀ {H}, AtS H 900000 S → RdC Tryz.prog 55 [.one (.ptr 900000 0), litI .i64 r] H (litI .i64 (argI (S.column r))) := fun hH => rd_slv 900000 (s_column S r (K := 400) (by omega) hBt (by omega)) rfl (List.forall_mem_cons.2 ⟨slv_p, List.forall_mem_cons.2 ⟨trivial, fun x hx => by cases hx⟩⟩) hH
        have rr : ∀ {H}, AtS H 900000 S → RdC Tryz.prog 56 [.one (.ptr 900000 0), litI .i64 r, litI .i64 S.R] H (.one (.t (eL cR (fnG S.R (outX S r S.n))))) := fun hH => rd_slv 900000 (s_reason S r (K := 400) (by omega) hBt (by omega) (by omega)) rfl (List.forall_mem_cons.2 ⟨slv_p, List.forall_mem_cons.2 ⟨trivial, List.forall_mem_cons.2 ⟨trivial, fun x hx => by cases hx⟩⟩⟩) hH
        rw [hcl] at rc
        simp only [go_sem, c1]
        refine call_rd2 (.inr rfl) (rc (by simp only [go_sem])) ?_
        simp only [go_sem, c2]
        have hRa : (a.length : Int) = (S.R : Int) := by omega
        simp only [go_sem, hRa]
        refine call_rd2 (.inr rfl) (rr (by simp only [go_sem])) ?_
        simp only [go_sem]
        exact fz_of rfl
end Go.Proofs.YtfgejnedaijjiaaGreat
