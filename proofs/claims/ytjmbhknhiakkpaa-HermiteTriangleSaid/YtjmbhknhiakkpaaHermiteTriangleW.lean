/- At every input the call answers true and leaves its arguments as they were; no conditions. -/
import Derived.Test.YtjmbhknhiakkpaaUd
import Derived.Test.YtjmbhknhiakkpaaNw
set_option linter.unusedSimpArgs false
set_option linter.unusedVariables false
namespace Go.Proofs.Ytjmbhknhiakkpaa
open Go Go.Abs
set_option maxHeartbeats 64000000
abbrev eU (l : List Int) : T := eL (fun n => [T.lit (.int .u8 n)]) l
theorem u8_at {l : List Int} (h : ∀ n ∈ l, 0 ≤ n ∧ n < 256) {b : Nat → Nat} (hb : b = fun i => ((l[i]?).getD 0).toNat) {i : Nat} (hi : i < l.length) : elemD (fun n => [T.lit (.int .u8 n)]) l i = [T.lit (.int .u8 (b i : Int))] := by
  rw [elemD_lt hi, hb]
  have := h _ (List.getElem_mem hi)
  show _ = [T.lit (.int .u8 ((((l[i]?).getD 0).toNat : Nat) : Int))]
  rw [List.getElem?_eq_getElem hi]
  show [T.lit (.int .u8 l[i])] = [T.lit (.int .u8 ((l[i].toNat : Nat) : Int))]
  rw [show ((l[i].toNat : Nat) : Int) = l[i] by omega]
theorem u8_lt {l : List Int} (h : ∀ n ∈ l, 0 ≤ n ∧ n < 256) {b : Nat → Nat} (hb : b = fun i => ((l[i]?).getD 0).toNat) (i : Nat) : b i < 256 := by
  rw [hb]
  show ((l[i]?).getD 0).toNat < 256
  by_cases c : i < l.length
  · rw [List.getElem?_eq_getElem c]; have := h _ (List.getElem_mem c); show l[i].toNat < 256; omega
  · rw [List.getElem?_eq_none (by omega)]; decide
set_option maxRecDepth 100000 in
theorem p_HermiteTriangle (d : List Int) (jd : d.length ≤ maxLen) (kd : ∀ n ∈ d, 0 ≤ n ∧ n < 256) (l : List Int) (jl : l.length ≤ maxLen) (kl : ∀ n ∈ l, 0 ≤ n ∧ n < 256) : PCall Try.prog 9 [.one (eU d), .one (eU l)] (tB true) := by
  have hk := known20
  have jd : d.length ≤ 9223372036854775807 := Nat.le_trans jd (by decide)
  have jl : l.length ≤ 9223372036854775807 := Nat.le_trans jl (by decide)
  obtain ⟨k, hkd⟩ : ∃ n, n = d.length := ⟨_, rfl⟩
  obtain ⟨B, hB⟩ : ∃ n, n = l.length := ⟨_, rfl⟩
  obtain ⟨dn, hdn⟩ : ∃ b : Nat → Nat, b = fun i => ((d[i]?).getD 0).toNat := ⟨_, rfl⟩
  obtain ⟨bn, hbn⟩ : ∃ b : Nat → Nat, b = fun i => ((l[i]?).getD 0).toNat := ⟨_, rfl⟩
  have ed := fun i (h : i < k) => u8_at kd hdn (show i < d.length by omega)
  have eb := fun i (h : i < B) => u8_at kl hbn (show i < l.length by omega)
  have ld := u8_lt kd hdn
  have lb := u8_lt kl hbn
  clear hdn hbn
  refine pcall_of_wpS [false, false, false, false, false, false, true] mixed Try.call9 Try.func9 rfl Try.ntmps9 Try.results9 (by simp) (by decide) ?_
  by_cases c1 : 5 < k
  · have c1' : ((5 : Int) < (k : Int)) = True := eq_true (by omega)
    simp only [go_sem, ← hkd, c1']
    ((repeat (refine regA_by 0 rfl ?_; simp only [go_sem, c1', ← hkd, ← hB])); refine call_pure (hk) rfl ?_; simp only [go_sem, c1', ← hkd, ← hB]; (repeat (refine regA_by 0 rfl ?_; simp only [go_sem, c1', ← hkd, ← hB])))
  have c1' : ((5 : Int) < (k : Int)) = False := eq_false (by omega)
  by_cases c2 : 20 < B
  · have c2' : ((20 : Int) < (B : Int)) = True := eq_true (by omega)
    simp only [go_sem, ← hkd, ← hB, c1', c2']
    ((repeat (refine regA_by 0 rfl ?_; simp only [go_sem, c1', c2', ← hkd, ← hB])); refine call_pure (hk) rfl ?_; simp only [go_sem, c1', c2', ← hkd, ← hB]; (repeat (refine regA_by 0 rfl ?_; simp only [go_sem, c1', c2', ← hkd, ← hB])))
  have c2' : ((20 : Int) < (B : Int)) = False := eq_false (by omega)
  obtain ⟨D, hD⟩ : ∃ D : Nat → Nat, D = fun i => dn i % 9 + 1 := ⟨_, rfl⟩
  have hD0 : ∀ i, 0 < D i := fun i => by rw [hD]; exact Nat.succ_pos _
  have hD9 : ∀ i, D i < 10 := fun i => by rw [hD]; have := Nat.mod_lt (dn i) (show 0 < 9 by decide); show dn i % 9 + 1 < 10; omega
  obtain ⟨g, hg⟩ : ∃ g, g = trV D bn B := ⟨_, rfl⟩
  have hsh := trV_shp (D := D) (b := bn) (B := B) (n := k) hD0
  rw [← hg] at hsh
  have hgb : ∀ i j, 0 ≤ g i j ∧ g i j < 10 := fun i j => by
    have h1 := hD9 i
    rw [hg]; unfold trV
    split
    · omega
    · split
      · have := Nat.mod_lt (bn (takN B i j)) (hD0 i); omega
      · omega
  simp only [go_sem, ← hkd, ← hB, c1', c2']
  ((repeat (refine regA_by 0 rfl ?_; simp only [go_sem, c1', c2', ← hkd, ← hB])); refine call_pure (hk) rfl ?_; simp only [go_sem, c1', c2', ← hkd, ← hB]; (repeat (refine regA_by 0 rfl ?_; simp only [go_sem, c1', c2', ← hkd, ← hB])))
  obtain ⟨g0, hg0⟩ : ∃ g0 : Nat → List Int, g0 = fun q => fnG k (g q) := ⟨_, rfl⟩
  (repeat (refine And.intro (by omega) ?_))
  refine loop_inv (fun i : Nat => stL 98 [(0, .one (.t (eU d))), (1, .one (.t (eU l))), (5, litI .i64 k), (6, .one (.vec 900001 1 0 k)), (7, litI .i64 (takN B i 0)), (8, litI .i64 i)]
      (famE 900100 cJ g0 i ++ [(900001, rowsC 900100 2 k i ++ nilL (k - i))])) (fun i => i ≤ k) (fun i => k - i) 0 ?_ (Nat.zero_le _) ?_
  · rw [Nat.sub_zero, takN_zero]
    refine GStep.trans (gstep_mv (b := 27) (b' := 900001) (by simp only [go_sem]) (by decide) (by decide)) ?_
    (refine gstep_list rfl ?_ ?_ ?_ ?_ <;> (try simp only [go_sem, tail_one, nilL_repl, nilL_refs]) <;> (try simp only [true_or, or_true, or_false, beq_self_eq_true, and_self, true_and, and_true]))
    · refine ⟨fun q hq => by omega, ?_⟩
      rw [nilL_map fun _ => rfl]; rfl
    · exact nilL_refs
  · intro i hi
    simp only [go_sem]
    refine CondR_if (fun hlt => ?_) (fun hge => ?_)
    · have hlt' : i < k := by omega
      have hh : rowsC 900100 2 k i ++ nilL (k - i) = hdA 900100 k k i (fnG 0 (g i)) := (hdA_nil hlt').symm
      rw [hh]
      simp only [go_sem]
      refine loop_inv (fun j : Nat => stL 98 [(0, .one (.t (eU d))), (1, .one (.t (eU l))), (5, litI .i64 k), (6, .one (.vec 900001 1 0 k)), (7, litI .i64 (takN B i j)), (8, litI .i64 i), (9, litI .i64 j)]
        (famE 900100 cJ g0 i ++ (accE 1000 cJ (fnG j (g i)) ++ [(900001, hdA 900100 k k i (fnG j (g i)))]))) (fun j => j ≤ k) (fun j => k - j) 0 ?_ (Nat.zero_le _) ?_
      · rw [fnG_zero]
        (refine gstep_list rfl ?_ ?_ ?_ ?_ <;> (try simp only [go_sem, tail_one, fam9, fam10]) <;> (try simp only [true_or, or_true, or_false, beq_self_eq_true, and_self, true_and, and_true]))
        · exact fun q hq => by rw [if_pos ⟨by omega, hq⟩]
        · exact hdA_refs fam_mem (.inl rfl)
      · intro j hj
        simp only [go_sem]
        refine CondR_if (fun hlj => ?_) (fun hgj => ?_)
        · have hlj' : j < k := by omega
          have hlen := hdA_len (b := 900100) (n := k) (xs := fnG j (g i)) hlt'
          have hat := hdA_at (b := 900100) (n := k) (R := k) (i := i) (xs := fnG j (g i))
          have hsu := fnG_succ (n := j) (g := g i)
          have hxl : (fnG j (g i)).length = j := fnG_len
          have hiI : ((i : Int) < (k : Int)) = True := eq_true (by omega)
          have hlenj : ∀ c, ((hdA 900100 k k i (fnG j (g i))).map (jC c)).length = k := fun c => by rw [List.length_map]; exact hlen
          have hset := fun c => hdA_set (R := k) (n := k) (i := i) (xs := fnG j (g i)) (c := c)
          have hb := hgb i j
          have q1 : PCall Try.prog 20 [tI .i64 (g i j)] (eI (g i j)) := i_Of (g i j) (by omega) (by omega)
          have edi := ed i hlt'
          obtain ⟨m, hm⟩ : ∃ m, m = dn i % 9 := ⟨_, rfl⟩
          have hm9 : m < 9 := by rw [hm]; exact Nat.mod_lt _ (by decide)
          have hDm : D i = m + 1 := by rw [hD, hm]
          have t1 : Int.tmod (dn i : Int) 9 = (m : Int) := by rw [hm]; rfl
          have w1 : IntKind.i64.wrap (m : Int) = m := wrap_i64 (by omega) (by omega)
          have w2 : IntKind.i64.wrap ((m : Int) + 1) = ((m + 1 : Nat) : Int) := by rw [wrap_i64 (by omega) (by omega)]; omega
          obtain ⟨tk, htk⟩ : ∃ tk, tk = takN B i j := ⟨_, rfl⟩
          have hts := takN_succ (B := B) (i := i) (j := j)
          rw [← htk] at hts
          have htB : tk ≤ B := by rw [htk]; exact Nat.min_le_left _ _
          have hge : g i j = if j = i then (D i : Int) else if j < i ∧ tk < B then ((bn tk % D i : Nat) : Int) else 0 := by rw [hg, htk]; rfl
          rw [← htk]
          obtain ⟨v, hv⟩ : ∃ v, v = g i j := ⟨_, rfl⟩
          rw [← hv] at hge q1 hsu
          generalize hxs : fnG j (g i) = xs at *
          by_cases e1 : j = i
          · have e1' : ((j : Int) = (i : Int)) = True := eq_true (by omega)
            have e2' : ((j : Int) < (i : Int)) = False := eq_false (by omega)
            rw [if_pos e1] at hge
            rw [if_neg (by omega)] at hts
            have w2 : IntKind.i64.wrap ((m : Int) + 1) = v := by rw [wrap_i64 (by omega) (by omega)]; omega
            simp only [go_sem, e1', e2', edi, hiI, t1, w1, w2]
            (repeat (refine And.intro (by omega) ?_))
            refine regA_any 12 rfl ?_
            refine AnyS.take' 0 rfl (by decide +kernel) (by decide +kernel) (by decide +kernel) (by simp only [go_sem]) (pureAt_move rfl) ?_
            refine AnyS.take' 1 rfl (by decide +kernel) (by decide +kernel) (by decide +kernel) (by simp only [go_sem]) (pureAt_move rfl) ?_
            refine AnyS.ord [0, 1] 0 [2, 3, 4, 5, 6, 7, 8, 9, 10, 11] (by decide +kernel) (by decide +kernel) (by decide +kernel) (by decide +kernel) (by decide +kernel) (by decide) ?_
            simp only [opsAt, List.filterMap_cons, List.filterMap_nil, List.getElem?_toArray, List.getElem?_cons_succ, List.getElem?_cons_zero]
            simp only [go_sem, hat, hlen, hiI, fam9, fam10]
            (repeat (refine And.intro (by omega) ?_))
            refine call_pure q1 rfl ?_
            simp only [go_sem, hat, hlen, hiI, fam9, fam10]
            refine opA_app_acc (sz := 2) (bytes := 32) (by simp only [go_sem, AppTy] <;> decide) cJ_len xs [v] (b := 1000) (by simp only [go_sem] <;> rfl) (by simp only [go_sem, fam9, fam10] <;> rfl) (by simp only [go_sem] <;> rfl) rfl (by simp) (by simp only [List.length_cons, List.length_nil] at *; omega) (by decide) ?_
            simp only [go_sem, hlen, hlenj, hiI, fam9, fam10, hset]
            (repeat (refine And.intro (by omega) ?_))
            refine ⟨j + 1, hlj', (by show k - (j + 1) < k - j; omega), ?_⟩
            (refine gstep_list rfl ?_ ?_ ?_ ?_ <;> (try simp only [go_sem, tail_one, hts, hsu, hset, fam9, fam10, cellsL_refs, wrap_i64 (n := (j : Int) + 1) (by omega) (by omega)]) <;> (try simp only [true_or, or_true, or_false, beq_self_eq_true, and_self, true_and, and_true]))
            · exact ⟨fun q hq => by rw [if_pos ⟨by omega, hq⟩]; show some (List.map _ _) = _; rw [jC_cells], rfl⟩
            · exact Bool.or_true _
            · exact hdA_refs fam_mem (.inr acc_mem)
          · have e1' : ((j : Int) = (i : Int)) = False := eq_false (by omega)
            rw [if_neg e1] at hge
            by_cases e2 : j < i ∧ tk < B
            · have e2' : ((j : Int) < (i : Int)) = True := eq_true (by omega)
              have e3' : ((tk : Int) < (B : Int)) = True := eq_true (by omega)
              rw [if_pos e2] at hge hts
              have ebt := eb tk e2.2
              have hbt := lb tk
              have w3 : IntKind.i64.wrap (bn tk : Int) = bn tk := wrap_i64 (by omega) (by omega)
              have hDi := hD9 i
              have hDp := hD0 i
              obtain ⟨dd, hdd⟩ : ∃ dd, dd = D i := ⟨_, rfl⟩
              rw [← hdd] at hge hDm hDi hDp
              have hd0 : ((dd : Int) = 0) = False := eq_false (by omega)
              have w2 : IntKind.i64.wrap ((m : Int) + 1) = (dd : Int) := by rw [wrap_i64 (by omega) (by omega)]; omega
              have t3 : Int.tmod (bn tk : Int) (dd : Int) = v := by rw [hge]; rfl
              have hkB : tk < 9223372036854775807 := by omega
              simp only [go_sem, e1', e2', e3', ← hB]
              refine regA_by 0 rfl ?_
              simp only [go_sem, ebt, e3', edi, hiI, t1, w1, w2, w3, t3, hd0, ← hB]
              (repeat (refine And.intro (by omega) ?_))
              refine regA_any 12 rfl ?_
              refine AnyS.take' 0 rfl (by decide +kernel) (by decide +kernel) (by decide +kernel) (by simp only [go_sem]) (pureAt_move rfl) ?_
              refine AnyS.take' 1 rfl (by decide +kernel) (by decide +kernel) (by decide +kernel) (by simp only [go_sem]) (pureAt_move rfl) ?_
              refine AnyS.ord [0, 1] 0 [2, 3, 4, 5, 6, 7, 8, 9, 10, 11] (by decide +kernel) (by decide +kernel) (by decide +kernel) (by decide +kernel) (by decide +kernel) (by decide) ?_
              simp only [opsAt, List.filterMap_cons, List.filterMap_nil, List.getElem?_toArray, List.getElem?_cons_succ, List.getElem?_cons_zero]
              simp only [go_sem, hat, hlen, hiI, fam9, fam10]
              (repeat (refine And.intro (by omega) ?_))
              refine call_pure q1 rfl ?_
              simp only [go_sem, hat, hlen, hiI, fam9, fam10]
              refine opA_app_acc (sz := 2) (bytes := 32) (by simp only [go_sem, AppTy] <;> decide) cJ_len xs [v] (b := 1000) (by simp only [go_sem] <;> rfl) (by simp only [go_sem, fam9, fam10] <;> rfl) (by simp only [go_sem] <;> rfl) rfl (by simp) (by simp only [List.length_cons, List.length_nil] at *; omega) (by decide) ?_
              simp only [go_sem, hlen, hlenj, hiI, fam9, fam10, hset]
              (repeat (refine And.intro (by omega) ?_))
              refine ⟨j + 1, hlj', (by show k - (j + 1) < k - j; omega), ?_⟩
              (refine gstep_list rfl ?_ ?_ ?_ ?_ <;> (try simp only [go_sem, tail_one, hts, hsu, hset, fam9, fam10, cellsL_refs, wrap_i64 (n := (j : Int) + 1) (by omega) (by omega), wrap_i64 (n := (tk : Int) + 1) (by omega) (by omega)]) <;> (try simp only [true_or, or_true, or_false, beq_self_eq_true, and_self, true_and, and_true]))
              · exact ⟨fun q hq => by rw [if_pos ⟨by omega, hq⟩]; show some (List.map _ _) = _; rw [jC_cells], rfl⟩
              · exact Bool.or_true _
              · exact hdA_refs fam_mem (.inr acc_mem)
            · rw [if_neg e2] at hge hts
              have q1 : PCall Try.prog 20 [tI .i64 0] (eI v) := by rw [hge] at q1 ⊢; exact q1
              by_cases e3 : j < i
              · have e2' : ((j : Int) < (i : Int)) = True := eq_true (by omega)
                have e3' : ((tk : Int) < (B : Int)) = False := eq_false (by omega)
                simp only [go_sem, e1', e2', e3', ← hB]
                refine regA_any 12 rfl ?_
                refine AnyS.take' 0 rfl (by decide +kernel) (by decide +kernel) (by decide +kernel) (by simp only [go_sem]) (pureAt_move rfl) ?_
                refine AnyS.take' 1 rfl (by decide +kernel) (by decide +kernel) (by decide +kernel) (by simp only [go_sem]) (pureAt_move rfl) ?_
                refine AnyS.ord [0, 1] 0 [2, 3, 4, 5, 6, 7, 8, 9, 10, 11] (by decide +kernel) (by decide +kernel) (by decide +kernel) (by decide +kernel) (by decide +kernel) (by decide) ?_
                simp only [opsAt, List.filterMap_cons, List.filterMap_nil, List.getElem?_toArray, List.getElem?_cons_succ, List.getElem?_cons_zero]
                simp only [go_sem, hat, hlen, hiI, fam9, fam10]
                (repeat (refine And.intro (by omega) ?_))
                refine call_pure q1 rfl ?_
                simp only [go_sem, hat, hlen, hiI, fam9, fam10]
                refine opA_app_acc (sz := 2) (bytes := 32) (by simp only [go_sem, AppTy] <;> decide) cJ_len xs [v] (b := 1000) (by simp only [go_sem] <;> rfl) (by simp only [go_sem, fam9, fam10] <;> rfl) (by simp only [go_sem] <;> rfl) rfl (by simp) (by simp only [List.length_cons, List.length_nil] at *; omega) (by decide) ?_
                simp only [go_sem, hlen, hlenj, hiI, fam9, fam10, hset]
                (repeat (refine And.intro (by omega) ?_))
                refine ⟨j + 1, hlj', (by show k - (j + 1) < k - j; omega), ?_⟩
                (refine gstep_list rfl ?_ ?_ ?_ ?_ <;> (try simp only [go_sem, tail_one, hts, hsu, hset, fam9, fam10, cellsL_refs, wrap_i64 (n := (j : Int) + 1) (by omega) (by omega)]) <;> (try simp only [true_or, or_true, or_false, beq_self_eq_true, and_self, true_and, and_true]))
                · exact ⟨fun q hq => by rw [if_pos ⟨by omega, hq⟩]; show some (List.map _ _) = _; rw [jC_cells], rfl⟩
                · exact Bool.or_true _
                · exact hdA_refs fam_mem (.inr acc_mem)
              · have e2' : ((j : Int) < (i : Int)) = False := eq_false (by omega)
                simp only [go_sem, e1', e2', ← hB]
                refine regA_any 12 rfl ?_
                refine AnyS.take' 0 rfl (by decide +kernel) (by decide +kernel) (by decide +kernel) (by simp only [go_sem]) (pureAt_move rfl) ?_
                refine AnyS.take' 1 rfl (by decide +kernel) (by decide +kernel) (by decide +kernel) (by simp only [go_sem]) (pureAt_move rfl) ?_
                refine AnyS.ord [0, 1] 0 [2, 3, 4, 5, 6, 7, 8, 9, 10, 11] (by decide +kernel) (by decide +kernel) (by decide +kernel) (by decide +kernel) (by decide +kernel) (by decide) ?_
                simp only [opsAt, List.filterMap_cons, List.filterMap_nil, List.getElem?_toArray, List.getElem?_cons_succ, List.getElem?_cons_zero]
                simp only [go_sem, hat, hlen, hiI, fam9, fam10]
                (repeat (refine And.intro (by omega) ?_))
                refine call_pure q1 rfl ?_
                simp only [go_sem, hat, hlen, hiI, fam9, fam10]
                refine opA_app_acc (sz := 2) (bytes := 32) (by simp only [go_sem, AppTy] <;> decide) cJ_len xs [v] (b := 1000) (by simp only [go_sem] <;> rfl) (by simp only [go_sem, fam9, fam10] <;> rfl) (by simp only [go_sem] <;> rfl) rfl (by simp) (by simp only [List.length_cons, List.length_nil] at *; omega) (by decide) ?_
                simp only [go_sem, hlen, hlenj, hiI, fam9, fam10, hset]
                (repeat (refine And.intro (by omega) ?_))
                refine ⟨j + 1, hlj', (by show k - (j + 1) < k - j; omega), ?_⟩
                (refine gstep_list rfl ?_ ?_ ?_ ?_ <;> (try simp only [go_sem, tail_one, hts, hsu, hset, fam9, fam10, cellsL_refs, wrap_i64 (n := (j : Int) + 1) (by omega) (by omega)]) <;> (try simp only [true_or, or_true, or_false, beq_self_eq_true, and_self, true_and, and_true]))
                · exact ⟨fun q hq => by rw [if_pos ⟨by omega, hq⟩]; show some (List.map _ _) = _; rw [jC_cells], rfl⟩
                · exact Bool.or_true _
                · exact hdA_refs fam_mem (.inr acc_mem)
        · obtain rfl : j = k := by omega
          have hne := fnG_ne (g := g i) (show j ≠ 0 by omega)
          have hmv := hdA_mv (R := j) (i := i) (n := j) hne fnG_len
          have hacc : ∀ o, accH cJ (fnG j (g i)) o = some (cellsL cJ (fnG j (g i))) := fun o => by
            cases e : fnG j (g i) with
            | nil => exact (hne e).elim
            | cons _ _ => rfl
          have htr := takN_row (B := B) hlt'
          generalize hxs : fnG j (g i) = xs at *
          simp only [go_sem]
          refine ⟨i + 1, hlt', (by show j - (i + 1) < j - i; omega), ?_⟩
          refine GStep.trans (gstep_mv (b := 1000) (b' := 900100 + i) (by simp only [go_sem, fam9, fam10] <;> simp) (by show _ < 1000000; omega) (by omega)) ?_
          (refine gstep_list rfl ?_ ?_ ?_ ?_ <;> (try simp only [go_sem, tail_one, htr, cellsL_refs, fam9, fam10, hmv, hacc, nilL_refs, wrap_i64 (n := (i : Int) + 1) (by omega) (by omega)]) <;> (try simp only [true_or, or_true, or_false, beq_self_eq_true, and_self, true_and, and_true]))
          · intro q hq
            by_cases e : q = i
            · rw [if_pos e, e, hg0]; show some _ = some (cellsL cJ (fnG j (g i))); rw [hxs]
            · rw [if_neg e, if_pos ⟨by omega, by omega⟩]; show some (List.map _ _) = _; rw [rnC_cells]
          · rw [List.all_append, rowsC_refs' fam_mem, nilL_refs]; rfl
    · obtain rfl : i = k := by omega
      rw [Nat.sub_self, show nilL 0 = [] from rfl, List.append_nil]
      simp only [go_sem]
      refine pau (stL 98 [(5, litI .i64 i), (6, .one (.t (eW (rawM i i g))))] []) (GStep.trans (gstep_mat (R := i) (n := i) (g := g) (by simp only [go_sem]) fun r hr => by show lookH (famE 900100 cJ g0 i ++ [(900001, rowsC 900100 2 i i)]) (900100 + r) = _; rw [lookH_fam_at hr, hg0]) ?_) ?_
      · (refine gstep_list rfl ?_ ?_ ?_ ?_ <;> (try simp only [go_sem, tail_one]) <;> (try simp only [true_or, or_true, or_false, beq_self_eq_true, and_self, true_and, and_true]))
      obtain ⟨b, hb⟩ : ∃ b, b = rawM i i g := ⟨_, rfl⟩
      have hbl : b.length = i := by rw [hb, rawM_len]
      have la : ∀ r ∈ b, LR 3 r := by
        rw [hb]
        exact LR_raw (by omega) fun r c _ _ => by
          have := hgb r c
          have := lN_small (z := g r c) (by omega)
          omega
      have hbq : ∀ r c, r < i → c < i → atW b r c = g r c := fun r c h1 h2 => by rw [hb, atW_raw h1 h2]
      rw [← hb]
      obtain ⟨S, hS⟩ : ∃ S, S = (madeS (atW b) i b.length b.length).1 := ⟨_, rfl⟩
      have hSd := madeS_dim (a := atW b) (n := i) (R := b.length) b.length
      have hi1 := madeS_inv (a := atW b) (n := i) (R := b.length) b.length
      have ho1 := few_out la (n := i) (by omega)
      have hs1 := made_shp (a := atW b) (n := i) (R := b.length) (by omega) fun r c _ _ => atW_nat la r c
      rw [← hS] at hSd hi1 ho1 hs1
      have f1 := h_Form b i (K := 10700000) (L := 3) (by decide) (by decide) (by omega) (by omega) la (few_made5 la (by omega)) hS
      rw [hSd.1, hSd.2] at f1
      have hs2 : Shp (atW b) b.length i (fun i => i) := by
        rw [hbl]
        exact hsh.congr fun r c h1 h2 => hbq r c h1 h2
      rw [hbl] at hi1 hs1 f1
      have hs2' : Shp (atW b) i i (fun i => i) := by rw [hbl] at hs2; exact hs2
      have hun := (shp_uniq hs1 hs2' hi1.cols hi1.cols' i (Nat.le_refl _)).2
      rw [show rawM i i S.h = b from by
        rw [hb]
        exact rawM_congr fun r c h1 h2 => by rw [hun r c h1 h2, hbq r c h1 h2]] at f1
      have f2 := h_Shape b i (fun i => i) (L := 3) (by decide) la (by omega) (by omega) hs2
      have f3 := tB_of (h_Equal b b (L := 3) (by decide) la la (by omega) (by omega)) rfl
      generalize rawM i i S.u = U at *
      generalize rawM i i S.v = V at *
      simp only [go_sem]
      ((repeat (refine regA_by 0 rfl ?_; simp only [go_sem])); refine call_pure (f1) rfl ?_; simp only [go_sem]; (repeat (refine regA_by 0 rfl ?_; simp only [go_sem])); refine call_pure (f2) rfl ?_; simp only [go_sem]; (repeat (refine regA_by 0 rfl ?_; simp only [go_sem])); refine call_pure (f3) rfl ?_; simp only [go_sem]; (repeat (refine regA_by 0 rfl ?_; simp only [go_sem])))
end Go.Proofs.Ytjmbhknhiakkpaa
