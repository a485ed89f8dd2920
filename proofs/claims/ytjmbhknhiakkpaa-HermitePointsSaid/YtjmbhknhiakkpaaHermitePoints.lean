/- At every input the call answers true and leaves its arguments as they were; no conditions. -/
import Derived.Test.YtjmbhknhiakkpaaUd
import Derived.Test.YtjmbhknhiakkpaaQz
set_option linter.unusedSimpArgs false
set_option linter.unusedVariables false
namespace Go.Proofs.Ytjmbhknhiakkpaa
open Go Go.Abs
set_option maxHeartbeats 32000000
abbrev e8 (l : List Int) : T := eL (fun n => [T.lit (.int .i8 n)]) l
theorem accH_veq {n : Nat} {z : Nat → Int} {o : Option (List C)} (h : n ≠ 0) : accH cJ (fnG n z) o = some (cellsL cJ (fnG n z)) := by
  have hxl : (fnG n z).length = n := fnG_len
  cases e : fnG n z with
  | nil => rw [e] at hxl; exact (h hxl.symm).elim
  | cons y ys => rfl
theorem acc_veq {b n : Nat} {z : Nat → Int} (h : n ≠ 0) : accC b 2 (fnG n z) = .vec b 2 0 n := by
  have hxl : (fnG n z).length = n := fnG_len
  cases e : fnG n z with
  | nil => rw [e] at hxl; exact (h hxl.symm).elim
  | cons y ys => rw [e] at hxl; rw [← hxl]; rfl
set_option maxRecDepth 100000 in
theorem p_HermitePoints (a : List (List RI)) (ja : a.length ≤ 9223372036854775807) (ka : ∀ r ∈ a, r.length ≤ 9223372036854775807 ∧ ∀ p ∈ r, p.2.length ≤ 9223372036854775807) (x : List Int) (jx : x.length ≤ maxLen) (kx : ∀ n ∈ x, -128 ≤ n ∧ n < 128) :
    PCall Try.prog 6 [.one (eW a), .one (e8 x)] (tB true) := by
  have hk := known20
  have q1 := few20 a ja ka
  have jx : x.length ≤ 9223372036854775807 := Nat.le_trans jx (by decide)
  obtain ⟨n, hn⟩ : ∃ n, n = x.length := ⟨_, rfl⟩
  obtain ⟨R, hR⟩ : ∃ R, R = a.length := ⟨_, rfl⟩
  obtain ⟨z, hz⟩ : ∃ z : Nat → Int, z = fun j => (x[j]?).getD 0 := ⟨_, rfl⟩
  have hzb : ∀ i, -128 ≤ z i ∧ z i < 128 := fun i => by
    rw [hz]
    show -128 ≤ (x[i]?).getD 0 ∧ (x[i]?).getD 0 < 128
    by_cases c : i < x.length
    · rw [List.getElem?_eq_getElem c]; exact kx _ (List.getElem_mem c)
    · rw [List.getElem?_eq_none (by omega)]; decide
  have hfz : ∀ i, i < n → elemD (fun n => [T.lit (.int .i8 n)]) x i = [T.lit (.int .i8 (z i))] := fun i hi => by
    rw [elemD_lt (by omega), hz]
    show _ = [T.lit (.int .i8 ((x[i]?).getD 0))]
    rw [List.getElem?_eq_getElem (by omega)]; rfl
  refine pcall_of_wpS [false, false, false, false, true] mixed Try.call6 Try.func6 rfl Try.ntmps6 Try.results6 (by simp) (by decide) ?_
  by_cases c1 : FW a
  rotate_left
  · have q1 := tB_not q1 c1
    simp only [go_sem]
    ((repeat (refine regA_by 0 rfl ?_; simp only [go_sem])); refine call_pure (hk) rfl ?_; simp only [go_sem]; (repeat (refine regA_by 0 rfl ?_; simp only [go_sem])); refine call_pure (q1) rfl ?_; simp only [go_sem]; (repeat (refine regA_by 0 rfl ?_; simp only [go_sem])))
  have q1 := tB_of q1 c1
  by_cases c2 : 5 < n
  · have c2' : ((5 : Int) < (n : Int)) = True := eq_true (by omega)
    simp only [go_sem, ← hn, c2']
    ((repeat (refine regA_by 0 rfl ?_; simp only [go_sem, ← hn, c2'])); refine call_pure (hk) rfl ?_; simp only [go_sem, ← hn, c2']; (repeat (refine regA_by 0 rfl ?_; simp only [go_sem, ← hn, c2'])); refine call_pure (q1) rfl ?_; simp only [go_sem, ← hn, c2']; (repeat (refine regA_by 0 rfl ?_; simp only [go_sem, ← hn, c2'])))
  have c2' : ((5 : Int) < (n : Int)) = False := eq_false (by omega)
  have la := c1.LR
  have h6 := c1.2
  have la2 : ∀ r ∈ a, LR 2 r := fun r hr => ⟨(la r hr).1, (c1.1 r hr).2⟩
  have hPa := fun i j (h1 : i < 1000000000) (h2 : j < 1000000000) => h_Place a i j (L := 2) (by decide) la2 (by omega) h1 h2
  obtain ⟨F, hF⟩ : ∃ F : Nat → Nat → Int, F = fun i j => atW a i j * z j := ⟨_, rfl⟩
  obtain ⟨bv, hbv⟩ : ∃ bv : Nat → Int, bv = fun i => smI (F i) n := ⟨_, rfl⟩
  have hpl : ∀ r c, lN (atW a r c) ≤ 2 := fun r c => lN_atW la2 r c
  have hzl : ∀ i, lN (z i) ≤ 1 := fun i => lN_small (by have := hzb i; omega)
  have hFl : ∀ i j, lN (F i j) ≤ 3 := fun i j => by
    rw [hF]
    have := lN_mul (atW a i j) (z j)
    have := hpl i j
    have := hzl j
    show lN (atW a i j * z j) ≤ 3
    omega
  simp only [go_sem, ← hn, ← hR, c2']
  ((repeat (refine regA_by 0 rfl ?_; simp only [go_sem, ← hn, ← hR, c2'])); refine call_pure (hk) rfl ?_; simp only [go_sem, ← hn, ← hR, c2']; (repeat (refine regA_by 0 rfl ?_; simp only [go_sem, ← hn, ← hR, c2'])); refine call_pure (q1) rfl ?_; simp only [go_sem, ← hn, ← hR, c2']; (repeat (refine regA_by 0 rfl ?_; simp only [go_sem, ← hn, ← hR, c2'])))
  refine loop_inv (fun i : Nat => stL 62 [(0, .one (.t (eW a))), (1, .one (.t (e8 x))), (5, .one (accC 1000 2 (fnG i bv))), (6, litI .i64 i)]
      (accE 1000 cJ (fnG i bv))) (fun i => i ≤ R) (fun i => R - i) 0 ?_ (Nat.zero_le _) ?_
  · rw [fnG_zero]
    (refine gstep_list rfl ?_ ?_ ?_ ?_ <;> (try simp only [go_sem, tail_one]) <;> (try simp only [true_or, or_true, or_false, beq_self_eq_true, and_self, true_and, and_true]))
  · intro i hi
    simp only [go_sem, ← hR]
    refine CondR_if (fun hlt => ?_) (fun hge => ?_)
    · have hlt' : i < R := by omega
      have hxl : (fnG i bv).length = i := fnG_len
      have hsu := fnG_succ (n := i) (g := bv)
      have hbi : bv i = smI (F i) n := by rw [hbv]
      generalize hxs : fnG i bv = xs at *
      simp only [go_sem]
      refine loop_inv (fun j : Nat => stL 62 [(0, .one (.t (eW a))), (1, .one (.t (e8 x))), (5, .one (accC 1000 2 xs)), (6, litI .i64 i), (7, .one (.ptr 7 0)), (8, litI .i64 j)]
          (accE 1000 cJ xs ++ [(7, (cJ (smI (F i) j)).map .t)])) (fun j => j ≤ n) (fun j => n - j) 0 ?_ (Nat.zero_le _) ?_
      · have hz0 : [C.t (T.lit (Value.bool false)), C.t (T.seq none [])] = (cJ 0).map .t := by
          show _ = [C.t (.lit (.bool (decide ((0 : Int) < 0)))), C.t (eN (dig 0))]; rw [dig_zero]; rfl
        refine GStep.trans (gstep_weakH 7 (cs := [C.t (T.lit (Value.bool false)), C.t (T.seq (some true) [])]) (cs' := (cJ (smI (F i) 0)).map .t) (by simp only [go_sem]) (by show WeakL _ ((cJ 0).map .t); rw [← hz0]; exact .cons .refl (.cons .seq .nil))) ?_
        (refine gstep_list rfl ?_ ?_ ?_ ?_ <;> (try simp only [go_sem, tail_one]) <;> (try simp only [true_or, or_true, or_false, beq_self_eq_true, and_self, true_and, and_true]))
        cases xs <;> simp
      · intro j hj
        simp only [go_sem, ← hn]
        refine CondR_if (fun hlj => ?_) (fun hgj => ?_)
        · have hlj' : j < n := by omega
          have hel := hfz j hlj'
          have hb := hzb j
          have w1 : IntKind.i64.wrap (z j) = z j := wrap_i64 (by omega) (by omega)
          have o0 := hPa i j (by omega) (by omega)
          have o1 : PCall Try.prog 20 [tI .i64 (z j)] (eI (z j)) := i_Of (z j) (by omega) (by omega)
          have o2 := i_Mul_e (atW a i j) (z j) (by have := hpl i j; omega) (by have := hzl j; omega)
          have e2 : atW a i j * z j = F i j := by rw [hF]
          rw [e2] at o2
          have b3 := lN_smI (f := F i) (C := 3) (m := j) fun c _ => hFl i c
          have o3 := i_Add_e (smI (F i) j) (F i j) (by omega) (by have := hFl i j; omega)
          have e3 : smI (F i) j + F i j = smI (F i) (j + 1) := rfl
          rw [e3] at o3
          have hI1 : ((j : Int) < (n : Int)) = True := eq_true (by omega)
          simp only [go_sem, ← hn]
          refine regA_by 0 rfl ?_
          simp only [go_sem, ← hn, hel, hI1, w1]
          (repeat (refine And.intro (by omega) ?_))
          ((repeat (refine regA_by 0 rfl ?_; simp only [go_sem, ← hn, hel, hI1, w1])); refine call_pure (o0) rfl ?_; simp only [go_sem, ← hn, hel, hI1, w1]; (repeat (refine regA_by 0 rfl ?_; simp only [go_sem, ← hn, hel, hI1, w1])))
          (repeat (refine And.intro (by omega) ?_))
          ((repeat (refine regA_by 0 rfl ?_; simp only [go_sem, ← hn, hel, hI1, w1])); refine call_pure (o1) rfl ?_; simp only [go_sem, ← hn, hel, hI1, w1]; (repeat (refine regA_by 0 rfl ?_; simp only [go_sem, ← hn, hel, hI1, w1])); refine call_pure (o2) rfl ?_; simp only [go_sem, ← hn, hel, hI1, w1]; (repeat (refine regA_by 0 rfl ?_; simp only [go_sem, ← hn, hel, hI1, w1])); refine call_pure (o3) rfl ?_; simp only [go_sem, ← hn, hel, hI1, w1]; (repeat (refine regA_by 0 rfl ?_; simp only [go_sem, ← hn, hel, hI1, w1])))
          refine ⟨j + 1, hlj', (by show n - (j + 1) < n - j; omega), ?_⟩
          (refine gstep_list rfl ?_ ?_ ?_ ?_ <;> (try simp only [go_sem, tail_one, wrap_i64 (n := (j : Int) + 1) (by omega) (by omega)]) <;> (try simp only [true_or, or_true, or_false, beq_self_eq_true, and_self, true_and, and_true]))
          cases xs <;> simp
        · obtain rfl : j = n := by omega
          rw [← hbi]
          simp only [go_sem]
          refine opA_app_acc (sz := 2) (bytes := 32) (by simp only [go_sem, AppTy] <;> decide) cJ_len xs [bv i] (b := 1000) (by simp only [go_sem] <;> rfl) (by simp only [go_sem] <;> rfl) (by simp only [go_sem] <;> rfl) rfl (by simp) (by simp only [List.length_cons, List.length_nil] at *; omega) (by decide) ?_
          simp only [go_sem]
          refine ⟨i + 1, hlt', (by show R - (i + 1) < R - i; omega), ?_⟩
          (refine gstep_list rfl ?_ ?_ ?_ ?_ <;> (try simp only [go_sem, tail_one, hsu, wrap_i64 (n := (i : Int) + 1) (by omega) (by omega)]) <;> (try simp only [true_or, or_true, or_false, beq_self_eq_true, and_self, true_and, and_true]))
          all_goals (try (cases xs <;> simp))
    · obtain rfl : i = R := by omega
      have hbl : ∀ r, lN (bv r) ≤ 3 := fun r => by
        rw [hbv]
        refine lN_of ?_
        have h1 := smI_abs (f := F r) (K := 128 * 1000000000000000000) (n := n) fun j _ => by
          rw [hF]
          show (atW a r j * z j).natAbs ≤ _
          rw [Int.natAbs_mul, Nat.mul_comm]
          have h1 := lt_lN (atW a r j)
          have h2 : BB ^ lN (atW a r j) ≤ BB ^ 2 := Nat.pow_le_pow_right (by decide) (hpl r j)
          have hB : BB ^ 2 = 1000000000000000000 := by decide
          have h3 := hzb j
          exact Nat.mul_le_mul (by omega) (by omega)
        have h2 : n * (128 * 1000000000000000000) ≤ 5 * (128 * 1000000000000000000) := Nat.mul_le_mul_right _ (by omega)
        have hB3 : BB ^ 3 = 1000000000000000000000000000 := by decide
        show (smI (F r) n).natAbs < BB ^ 3
        rw [hB3]
        omega
      obtain ⟨b, hb⟩ : ∃ b : List RI, b = fnG i fun r => encJ (bv r) := ⟨_, rfl⟩
      have er : eL cJ (fnG i bv) = eL cI b := by rw [hb]; exact rowT_raw
      have lb : LR 3 b := by rw [hb]; exact LR_row (by omega) fun c _ => hbl c
      have hbq : ∀ r, r < i → atR b r = bv r := fun r hr => by rw [hb, atR_lt (by rw [fnG_len]; exact hr), fnG_get, vR_enc]
      obtain ⟨S, pv, kk, T, hp, hv, hT, _, hbad, _, hS⟩ := solve_any a b n (by omega) h6 la lb
      have hTR := solve_yes hp hv hT hbad (x := z) fun r hr => by
        rw [hbq r (by omega), hbv]
        show smI _ n = smI (F r) n
        rw [hF]
      have hsol : solT S pv kk (atR b) n a.length T = .tup [.one (eL cJ (fnG n (xSol S pv kk (atR b) n a.length))), .one (.seq (some true) []), tB true] := by
        unfold solT; rw [if_neg (by omega)]
      rw [hsol] at hS
      generalize fnG n (xSol S pv kk (atR b) n a.length) = X at *
      by_cases c0 : i = 0
      · have hS := hS.tw (tvs' := [.one (eW a), .one (.seq (some true) []), tI .i64 n]) (.cons TVW.refl1 (.cons (by rw [hb, c0]; exact .one .weak) (.cons TVW.refl1 .nil)))
        rw [c0, fnG_zero]
        simp only [go_sem]
        refine pau (stL 62 [(0, .one (.t (eW a))), (1, .one (.t (e8 x))), (5, .one (.t (.seq (some true) [])))] []) ?_ ?_
        · (refine gstep_list rfl ?_ ?_ ?_ ?_ <;> (try simp only [go_sem, tail_one]) <;> (try simp only [true_or, or_true, or_false, beq_self_eq_true, and_self, true_and, and_true]))
        simp only [go_sem, ← hn]
        ((repeat (refine regA_by 0 rfl ?_; simp only [go_sem, ← hn])); refine call_pure (hS) rfl ?_; simp only [go_sem, ← hn]; (repeat (refine regA_by 0 rfl ?_; simp only [go_sem, ← hn])))
      · have htr := treeOf_L (f := cJ) (xs := fnG i bv) cJ_len
        rw [fnG_len, er] at htr
        have hv2 := acc_veq (b := 1000) (z := bv) c0
        have ha2 := fun o => accH_veq (z := bv) (o := o) c0
        simp only [go_sem]
        refine pau (stL 62 [(0, .one (.t (eW a))), (1, .one (.t (e8 x))), (5, .one (.t (eL cI b)))] []) (GStep.trans (gstep_frz (b := 1000) (sz := 2) (len := i) (x := eL cI b) (cs := cellsL cJ (fnG i bv)) (by simp only [go_sem, ha2]) htr) ?_) ?_
        · (refine gstep_list rfl ?_ ?_ ?_ ?_ <;> (try simp only [go_sem, tail_one, hv2]) <;> (try simp only [true_or, or_true, or_false, beq_self_eq_true, and_self, true_and, and_true]))
        simp only [go_sem, ← hn]
        ((repeat (refine regA_by 0 rfl ?_; simp only [go_sem, ← hn])); refine call_pure (hS) rfl ?_; simp only [go_sem, ← hn]; (repeat (refine regA_by 0 rfl ?_; simp only [go_sem, ← hn])))
end Go.Proofs.Ytjmbhknhiakkpaa
namespace Go.Proofs.Ytjmbhknhiakkpaa
open Go Go.Abs Go.ChangeShapes Go.WideShapes Go.ChangeAt Go.RowKit
set_option maxRecDepth 100000
theorem hermitePoints_lifted (os : Os) (started : os.Started) (H : Type) (enc : TypeId × Value → H) :
    ReturnsInHanded {} Try.checked os 6 .any (Rows.hermitePointsSpec.pre6 enc Try.prog Try.f6 Rows.hermitePointsRow.domain false) (Rows.hermitePointsSpec.post enc Try.prog Try.f6 false true false false) := by
  refine returnsInHanded_of_change (C := Try.checked) Try.ownK started (by kernel_rfl) Try.func6
    (ChangeSpec.witness6 (enc := enc) (C := Try.checked) false ⟨#[], #[.slice none 0 0, .slice none 0 0], []⟩ 8 (by kernel_rfl) (by kernel_rfl) (by kernel_rfl) (by kernel_rfl)) ?_
  intro W base args ds gs before hval hW _ _
  refine row_of_pcall (S := plainS) (tb := 4) plain_ok Try.laidOut (by intro t ht; revert t; decide +kernel) rfl Try.underlying4 rfl (fun ds h => ?_) (fun tvs h => ?_) hval hW
  · match ds, h with
    | [d0, d1], _ => rfl
  · obtain ⟨x0, _, rfl, h0, h⟩ := wtvs_cons h
    obtain ⟨x1, _, rfl, h1, h⟩ := wtvs_cons h
    obtain rfl := wtvs_nil h
    obtain ⟨l0, rfl, j0, k0⟩ := wtv_Mat h0
    obtain ⟨l1, rfl, j1, k1⟩ := wtv_i8s h1
    exact p_HermitePoints l0 j0 k0 l1 j1 k1

theorem hermitePoints_holds : Rows.HermitePointsSaid :=
  OpenClaim.holds_of_wide 6 Try.f6 rfl rfl rfl rfl rfl rfl rfl ⟨rfl, rfl, rfl, rfl, rfl⟩ rfl rfl rfl rfl rfl (by kernel_rfl) Try.func6 (by kernel_rfl)
    (of_decide_eq_true (by kernel_rfl)) (by unfold Func.isWrapper; first | (rw [if_pos (by decide +kernel)]; kernel_rfl) | (rw [if_neg (by decide +kernel)]; exact ⟨rfl, rfl⟩))
    (fun os started H enc _ => hermitePoints_lifted os started H enc)
end Go.Proofs.Ytjmbhknhiakkpaa
