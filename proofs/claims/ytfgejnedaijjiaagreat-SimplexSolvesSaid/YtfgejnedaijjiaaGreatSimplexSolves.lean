/- At every input the call answers true and leaves its arguments as they were; no conditions. -/
import Derived.Test.YtfgejnedaijjiaaGreatDe
import Derived.Test.YtfgejnedaijjiaaGreatQz
set_option linter.unusedSimpArgs false
set_option linter.unusedVariables false
namespace Go.Proofs.YtfgejnedaijjiaaGreat
open Go Go.Abs
set_option maxHeartbeats 16000000
theorem sgn_le {q : Rat} (h : q ≤ 0) : (0 < q.num.sign) = False := eq_false fun h' => by
  have := numPos2.2 (Int.sign_pos_iff.1 h')
  exact absurd h (Rat.not_le.2 this)
set_option maxRecDepth 100000 in
theorem p_SimplexSolves (a : List LL) (ja : a.length ≤ maxLen) (ka : ∀ l ∈ a, LLok l) (n : Int) (n1 : 0 ≤ n) (n2 : n < 256) :
    PCall Tryz.prog 3 [.one (eL cL a), tI .u8 n] (tB true) := by
  have hk := known19
  have q1 := fewLins19 a ja ka
  refine pcall_of_wpA mixed Tryz.call3 Tryz.func3 rfl Tryz.ntmps3 Tryz.results3 (by simp) (by decide) ?_
  by_cases c1 : FLs a
  · have q1 := tB_of q1 c1
    obtain ⟨k, hk1, hk2⟩ : ∃ k : Nat, Int.tmod n 9 = (k : Int) ∧ k < 9 := ⟨(n % 9).toNat, by rw [Int.tmod_eq_emod_of_nonneg n1]; omega, by omega⟩
    have hw : IntKind.i64.wrap (k : Int) = (k : Int) := wrap_i64 (by omega) (by omega)
    have hbl := c1.blD ka
    have hd := c1.2
    rcases solve_spec a k (by omega) hd hbl c1.lastVD with ⟨x, hx, hK, hs, hle⟩ | ⟨g, _, _, _, hs, hf⟩
    · have hat : ∀ l, l ∈ a → PCall Tryz.prog 17 [gL l, tLR x] (eQ (atQ (lv l) (ptR x))) := fun l hl => by
        have h := f6_AtRat' l (x.map rawQ) (N := 8) (L := 4) (K := 45) (by decide) (by decide) (by decide) (by decide) (by decide) (by decide) (hbl l hl) (by rw [List.length_map]; omega) (raw_lim hK)
        unfold tLQ at h
        rwa [eL_raw, ptQ_rawL] at h
      have hlq : ∀ l, l ∈ a → lQ (atQ (lv l) (ptR x)) < 4000 := fun l hl => by
        have h := lQ_atQ (N := 8) (L := 4) (K := 45) (by decide) (Bd_lv (hbl l hl)) (p := ptR x) (fun v => by
          unfold ptR
          rw [List.getD_eq_getElem?_getD]
          cases e : x[v]? with
          | none => exact Nat.le_trans lQ_zero (by decide)
          | some q => exact hK q (List.mem_of_getElem? e)) (lv l).1.length
        rw [List.take_length] at h
        have h2 := (Bd_lv (hbl l hl)).1
        have h3 : (lv l).1.length * (4 + 45 + 1) ≤ 8 * 50 := Nat.mul_le_mul h2 (by decide)
        unfold atQ; omega
      have hxI : ((x.length : Int) = (k : Int)) = True := eq_true (by omega)
      simp only [go_sem]
      ((repeat (refine regA_by 0 rfl ?_; simp only [go_sem, hk1, hw, hxI])); refine call_pure (hk) rfl ?_; simp only [go_sem, hk1, hw, hxI]; (repeat (refine regA_by 0 rfl ?_; simp only [go_sem, hk1, hw, hxI])); refine call_pure (q1) rfl ?_; simp only [go_sem, hk1, hw, hxI]; (repeat (refine regA_by 0 rfl ?_; simp only [go_sem, hk1, hw, hxI])); refine call_pure (hs) rfl ?_; simp only [go_sem, hk1, hw, hxI]; (repeat (refine regA_by 0 rfl ?_; simp only [go_sem, hk1, hw, hxI])))
      refine loop_inv (fun i : Nat => stL 71 [(0, .one (.t (eL cL a))), (5, litI .i64 k), (6, aLR x), (9, litI .i64 i)] []) (fun i => i ≤ a.length) (fun i => a.length - i) 0 ?_ (Nat.zero_le _) ?_
      · (refine gstep_list rfl ?_ ?_ ?_ ?_ <;> (try simp only [go_sem, tail_one]) <;> (try simp))
      · intro i hi
        simp only [go_sem]
        refine CondR_if (fun hlt => ?_) (fun hge => ?_)
        · have hlt' : i < a.length := by omega
          have hel : elemD cL a i = cL a[i] := elemD_lt hlt'
          have hm := List.getElem_mem hlt'
          have o1 := hat _ hm
          have o2 := r_SignRat_e _ (hlq _ hm)
          have s1 := sgn_le (hle _ (List.mem_map.2 ⟨_, hm, rfl⟩))
          generalize a[i] = l at *
          generalize atQ (lv l) (ptR x) = r at *
          simp only [go_sem, hel, hlt]
          (repeat (refine And.intro (by omega) ?_))
          ((repeat (refine regA_by 0 rfl ?_; simp only [go_sem, hel, hlt])); refine call_pure (o1) rfl ?_; simp only [go_sem, hel, hlt]; (repeat (refine regA_by 0 rfl ?_; simp only [go_sem, hel, hlt])); refine call_pure (o2) rfl ?_; simp only [go_sem, hel, hlt]; (repeat (refine regA_by 0 rfl ?_; simp only [go_sem, hel, hlt])))
          simp only [go_sem, s1]
          refine ⟨i + 1, hlt', (by show a.length - (i + 1) < a.length - i; omega), ?_⟩
          (refine gstep_list rfl ?_ ?_ ?_ ?_ <;> (try simp only [go_sem, tail_one, wrap_i64 (n := (i : Int) + 1) (by omega) (by omega)]) <;> (try simp))
        · obtain rfl : i = a.length := by omega
          simp only [go_sem]
          refine loop_inv (fun j : Nat => stL 71 [(5, litI .i64 k), (6, aLR x), (10, litI .i64 j)] []) (fun j => j ≤ k) (fun j => k - j) 0 ?_ (Nat.zero_le _) ?_
          · (refine gstep_list rfl ?_ ?_ ?_ ?_ <;> (try simp only [go_sem, tail_one]) <;> (try simp))
          · intro j hj
            simp only [go_sem]
            refine CondR_if (fun hlt => ?_) (fun hge => ?_)
            · have hlt' : j < x.length := by omega
              have hlI : ((j : Int) < (x.length : Int)) = True := eq_true (by omega)
              have hel : elemD cR x j = cR x[j] := elemD_lt hlt'
              have o1 := r_IsRat_e x[j] (by have := hK _ (List.getElem_mem hlt'); omega)
              generalize x[j] = q at *
              simp only [go_sem, hel, hlI]
              (repeat (refine And.intro (by omega) ?_))
              ((repeat (refine regA_by 0 rfl ?_; simp only [go_sem, hel, hlI])); refine call_pure (o1) rfl ?_; simp only [go_sem, hel, hlI]; (repeat (refine regA_by 0 rfl ?_; simp only [go_sem, hel, hlI])))
              refine ⟨j + 1, by omega, (by show k - (j + 1) < k - j; omega), ?_⟩
              (refine gstep_list rfl ?_ ?_ ?_ ?_ <;> (try simp only [go_sem, tail_one, wrap_i64 (n := (j : Int) + 1) (by omega) (by omega)]) <;> (try simp))
            · simp only [go_sem]
    · simp only [go_sem]
      ((repeat (refine regA_by 0 rfl ?_; simp only [go_sem, hk1, hw])); refine call_pure (hk) rfl ?_; simp only [go_sem, hk1, hw]; (repeat (refine regA_by 0 rfl ?_; simp only [go_sem, hk1, hw])); refine call_pure (q1) rfl ?_; simp only [go_sem, hk1, hw]; (repeat (refine regA_by 0 rfl ?_; simp only [go_sem, hk1, hw])); refine call_pure (hs) rfl ?_; simp only [go_sem, hk1, hw]; (repeat (refine regA_by 0 rfl ?_; simp only [go_sem, hk1, hw])); refine call_pure (hf) rfl ?_; simp only [go_sem, hk1, hw]; (repeat (refine regA_by 0 rfl ?_; simp only [go_sem, hk1, hw])))
  · have q1 := tB_not q1 c1
    simp only [go_sem]
    ((repeat (refine regA_by 0 rfl ?_; simp only [go_sem])); refine call_pure (hk) rfl ?_; simp only [go_sem]; (repeat (refine regA_by 0 rfl ?_; simp only [go_sem])); refine call_pure (q1) rfl ?_; simp only [go_sem]; (repeat (refine regA_by 0 rfl ?_; simp only [go_sem])))
end Go.Proofs.YtfgejnedaijjiaaGreat
namespace Go.Proofs.YtfgejnedaijjiaaGreat
open Go Go.Abs Go.ChangeShapes Go.WideShapes Go.ChangeAt Go.RowKit
set_option maxRecDepth 100000
theorem simplexSolves_lifted (os : Os) (started : os.Started) (H : Type) (enc : TypeId × Value → H) :
    ReturnsInHanded {} Tryz.checked os 3 .any (Rows.simplexSolvesSpec.pre6 enc Tryz.prog Tryz.f3 Rows.simplexSolvesRow.domain false) (Rows.simplexSolvesSpec.post enc Tryz.prog Tryz.f3 false true false false) := by
  refine returnsInHanded_of_change (C := Tryz.checked) Tryz.ownK started (by kernel_rfl) Tryz.func3
    (ChangeSpec.witness6 (enc := enc) (C := Tryz.checked) false ⟨#[], #[.slice none 0 0, .int .u8 0], []⟩ 8 (by kernel_rfl) (by kernel_rfl) (by kernel_rfl) (by kernel_rfl)) ?_
  intro W base args ds gs before hval hW _ _
  refine row_of_pcall (S := plainS) (tb := 4) plain_ok Tryz.laidOut (by intro t ht; revert t; decide +kernel) rfl Tryz.underlying4 rfl (fun ds h => ?_) (fun tvs h => ?_) hval hW
  · match ds, h with
    | [d0, d1], _ => rfl
  · obtain ⟨x0, _, rfl, h0, h⟩ := wtvs_cons h
    obtain ⟨x1, _, rfl, h1, h⟩ := wtvs_cons h
    obtain rfl := wtvs_nil h
    obtain ⟨l0, rfl, j0, k0⟩ := wtv_Lins h0
    obtain ⟨n1, rfl, k1⟩ := wtv_int Tryz.underlying5 h1
    have k1 := wf_u8 k1
    exact p_SimplexSolves l0 j0 k0 n1 k1.1 k1.2

theorem simplexSolves_holds : Rows.SimplexSolvesSaid :=
  OpenClaim.holds_of_wide 3 Tryz.f3 rfl rfl rfl rfl rfl rfl rfl ⟨rfl, rfl, rfl, rfl, rfl⟩ rfl rfl rfl rfl rfl (by kernel_rfl) Tryz.func3 (by kernel_rfl)
    (of_decide_eq_true (by kernel_rfl)) (by unfold Func.isWrapper; first | (rw [if_pos (by decide +kernel)]; kernel_rfl) | (rw [if_neg (by decide +kernel)]; exact ⟨rfl, rfl⟩))
    (fun os started H enc _ => simplexSolves_lifted os started H enc)
end Go.Proofs.YtfgejnedaijjiaaGreat
