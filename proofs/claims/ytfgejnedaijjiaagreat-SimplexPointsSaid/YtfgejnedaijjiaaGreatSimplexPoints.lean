/- At every input the call answers true and leaves its arguments as they were; no conditions. -/
import Derived.Test.YtfgejnedaijjiaaGreatDe
import Derived.Test.YtfgejnedaijjiaaGreatQz
set_option linter.unusedSimpArgs false
set_option linter.unusedVariables false
namespace Go.Proofs.YtfgejnedaijjiaaGreat
open Go Go.Abs
set_option maxHeartbeats 16000000
theorem sgn_le37 {q : Rat} : (0 < q.num.sign) ↔ ¬ q ≤ 0 := by
  rw [Rat.not_le, numPos2, Int.sign_pos_iff]
theorem ptQ_hi {x : List QQ} {n v : Nat} (hx : x.length = n) (h : n ≤ v) : ptQ x v = 0 := by
  unfold ptQ; rw [List.getElem?_eq_none (by omega)]
set_option maxRecDepth 100000 in
theorem p_SimplexPoints (a : List LL) (ja : a.length ≤ maxLen) (ka : ∀ l ∈ a, LLok l) (x : List QQ) (jx : x.length ≤ maxLen) :
    PCall Tryz.prog 4 [.one (eL cL a), tLQ x] (tB true) := by
  have hk := known19
  have q1 := fewLins19 a ja ka
  have q2 := fewRats19 x jx
  refine pcall_of_wpA mixed Tryz.call4 Tryz.func4 rfl Tryz.ntmps4 Tryz.results4 (by simp) (by decide) ?_
  by_cases c1 : FLs a
  · have q1 := tB_of q1 c1
    by_cases c2 : FR x
    · have q2 := tB_of q2 c2
      by_cases c3 : x.length ≤ 8
      · have c3' : ((8 : Int) < (x.length : Int)) = False := eq_false (by omega)
        have hbl := c1.blD ka
        have hd := c1.2
        have hat := fun l (hl : l ∈ a) => f6_AtRat l x (N := 8) (L := 4) (K := 3) (by decide) (by decide) (by decide) (by decide) (by decide) (hbl l hl) (by omega) c2.1
        have hlq : ∀ l, l ∈ a → lQ (atQ (lv l) (ptQ x)) < 4000 := fun l hl => by
          have h := lQ_atQ (N := 8) (L := 4) (K := 3) (by decide) (Bd_lv (hbl l hl)) (p := ptQ x) (lQ_ptQ (by decide) c2.1) (lv l).1.length
          rw [List.take_length] at h
          have h2 := (Bd_lv (hbl l hl)).1
          have h3 : (lv l).1.length * (4 + 3 + 1) ≤ 8 * 8 := Nat.mul_le_mul h2 (by decide)
          unfold atQ; omega
        simp only [go_sem]
        ((repeat (refine regA_by 0 rfl ?_; simp only [go_sem, c3'])); refine call_pure (hk) rfl ?_; simp only [go_sem, c3']; (repeat (refine regA_by 0 rfl ?_; simp only [go_sem, c3'])); refine call_pure (q1) rfl ?_; simp only [go_sem, c3']; (repeat (refine regA_by 0 rfl ?_; simp only [go_sem, c3'])); refine call_pure (q2) rfl ?_; simp only [go_sem, c3']; (repeat (refine regA_by 0 rfl ?_; simp only [go_sem, c3'])))
        refine loop_inv (fun i : Nat => stL 47 [(0, .one (.t (eL cL a))), (1, aLQ x), (5, litI .i64 i)] []) (fun i => i ≤ a.length ∧ ∀ l ∈ a.take i, atQ (lv l) (ptQ x) ≤ 0) (fun i => a.length - i) 0 ?_ ⟨Nat.zero_le _, fun l hl => by cases hl⟩ ?_
        · (refine gstep_list rfl ?_ ?_ ?_ ?_ <;> (try simp only [go_sem, tail_one]) <;> (try simp))
        · rintro i ⟨hi, hinv⟩
          simp only [go_sem]
          refine CondR_if (fun hlt => ?_) (fun hge => ?_)
          · have hlt' : i < a.length := by omega
            have hel : elemD cL a i = cL a[i] := elemD_lt hlt'
            have hm := List.getElem_mem hlt'
            have o1 := hat _ hm
            have o2 := r_SignRat_e _ (hlq _ hm)
            have s1 := sgn_le37 (q := atQ (lv a[i]) (ptQ x))
            have hnx : atQ (lv a[i]) (ptQ x) ≤ 0 → ∀ l ∈ a.take (i + 1), atQ (lv l) (ptQ x) ≤ 0 := fun h l hl => by
              rw [take_snoc hlt'] at hl
              rcases List.mem_append.1 hl with hl | hl
              · exact hinv l hl
              · obtain rfl := List.mem_singleton.1 hl; exact h
            generalize a[i] = l at *
            generalize atQ (lv l) (ptQ x) = r at *
            by_cases d : r ≤ 0
            · have d' : (0 < r.num.sign) = False := eq_false fun h => s1.1 h d
              simp only [go_sem, hel, hlt]
              (repeat (refine And.intro (by omega) ?_))
              ((repeat (refine regA_by 0 rfl ?_; simp only [go_sem, hel, hlt])); refine call_pure (o1) rfl ?_; simp only [go_sem, hel, hlt]; (repeat (refine regA_by 0 rfl ?_; simp only [go_sem, hel, hlt])); refine call_pure (o2) rfl ?_; simp only [go_sem, hel, hlt]; (repeat (refine regA_by 0 rfl ?_; simp only [go_sem, hel, hlt])))
              simp only [go_sem, d']
              refine ⟨i + 1, ⟨hlt', hnx d⟩, (by show a.length - (i + 1) < a.length - i; omega), ?_⟩
              (refine gstep_list rfl ?_ ?_ ?_ ?_ <;> (try simp only [go_sem, tail_one, wrap_i64 (n := (i : Int) + 1) (by omega) (by omega)]) <;> (try simp))
            · have d' : (0 < r.num.sign) = True := eq_true (s1.2 d)
              simp only [go_sem, hel, hlt]
              (repeat (refine And.intro (by omega) ?_))
              ((repeat (refine regA_by 0 rfl ?_; simp only [go_sem, hel, hlt])); refine call_pure (o1) rfl ?_; simp only [go_sem, hel, hlt]; (repeat (refine regA_by 0 rfl ?_; simp only [go_sem, hel, hlt])); refine call_pure (o2) rfl ?_; simp only [go_sem, hel, hlt]; (repeat (refine regA_by 0 rfl ?_; simp only [go_sem, hel, hlt])))
              simp only [go_sem, d']
          · obtain rfl : i = a.length := by omega
            rw [List.take_length] at hinv
            rcases solve_spec a x.length (by omega) hd hbl c1.lastVD with ⟨y, _, _, hs, _⟩ | ⟨g, _, _, hn, _, _⟩
            · simp only [go_sem]
              ((repeat (refine regA_by 0 rfl ?_; simp only [go_sem])); refine call_pure (hs) rfl ?_; simp only [go_sem]; (repeat (refine regA_by 0 rfl ?_; simp only [go_sem])))
            · exfalso
              refine hn.none (fun f hf => ?_) (p := ptQ x) (fun v hv => ptQ_hi rfl hv) fun f hf => ?_
              · obtain ⟨l, _, rfl⟩ := List.mem_map.1 hf; exact WF_lv l
              · obtain ⟨l, hl, rfl⟩ := List.mem_map.1 hf; exact hinv l hl
      · have c3' : ((8 : Int) < (x.length : Int)) = True := eq_true (by omega)
        simp only [go_sem]
        ((repeat (refine regA_by 0 rfl ?_; simp only [go_sem, c3'])); refine call_pure (hk) rfl ?_; simp only [go_sem, c3']; (repeat (refine regA_by 0 rfl ?_; simp only [go_sem, c3'])); refine call_pure (q1) rfl ?_; simp only [go_sem, c3']; (repeat (refine regA_by 0 rfl ?_; simp only [go_sem, c3'])); refine call_pure (q2) rfl ?_; simp only [go_sem, c3']; (repeat (refine regA_by 0 rfl ?_; simp only [go_sem, c3'])))
    · have q2 := tB_not q2 c2
      simp only [go_sem]
      ((repeat (refine regA_by 0 rfl ?_; simp only [go_sem])); refine call_pure (hk) rfl ?_; simp only [go_sem]; (repeat (refine regA_by 0 rfl ?_; simp only [go_sem])); refine call_pure (q1) rfl ?_; simp only [go_sem]; (repeat (refine regA_by 0 rfl ?_; simp only [go_sem])); refine call_pure (q2) rfl ?_; simp only [go_sem]; (repeat (refine regA_by 0 rfl ?_; simp only [go_sem])))
  · have q1 := tB_not q1 c1
    simp only [go_sem]
    ((repeat (refine regA_by 0 rfl ?_; simp only [go_sem])); refine call_pure (hk) rfl ?_; simp only [go_sem]; (repeat (refine regA_by 0 rfl ?_; simp only [go_sem])); refine call_pure (q1) rfl ?_; simp only [go_sem]; (repeat (refine regA_by 0 rfl ?_; simp only [go_sem])))
end Go.Proofs.YtfgejnedaijjiaaGreat
namespace Go.Proofs.YtfgejnedaijjiaaGreat
open Go Go.Abs Go.ChangeShapes Go.WideShapes Go.ChangeAt Go.RowKit
set_option maxRecDepth 100000
theorem simplexPoints_lifted (os : Os) (started : os.Started) (H : Type) (enc : TypeId × Value → H) :
    ReturnsInHanded {} Tryz.checked os 4 .any (Rows.simplexPointsSpec.pre6 enc Tryz.prog Tryz.f4 Rows.simplexPointsRow.domain false) (Rows.simplexPointsSpec.post enc Tryz.prog Tryz.f4 false true false false) := by
  refine returnsInHanded_of_change (C := Tryz.checked) Tryz.ownK started (by kernel_rfl) Tryz.func4
    (ChangeSpec.witness6 (enc := enc) (C := Tryz.checked) false ⟨#[], #[.slice none 0 0, .slice none 0 0], []⟩ 8 (by kernel_rfl) (by kernel_rfl) (by kernel_rfl) (by kernel_rfl)) ?_
  intro W base args ds gs before hval hW _ _
  refine row_of_pcall (S := plainS) (tb := 4) plain_ok Tryz.laidOut (by intro t ht; revert t; decide +kernel) rfl Tryz.underlying4 rfl (fun ds h => ?_) (fun tvs h => ?_) hval hW
  · match ds, h with
    | [d0, d1], _ => rfl
  · obtain ⟨x0, _, rfl, h0, h⟩ := wtvs_cons h
    obtain ⟨x1, _, rfl, h1, h⟩ := wtvs_cons h
    obtain rfl := wtvs_nil h
    obtain ⟨l0, rfl, j0, k0⟩ := wtv_Lins h0
    obtain ⟨l1, rfl, j1⟩ := wtv_Rats h1
    exact p_SimplexPoints l0 j0 k0 l1 j1

theorem simplexPoints_holds : Rows.SimplexPointsSaid :=
  OpenClaim.holds_of_wide 4 Tryz.f4 rfl rfl rfl rfl rfl rfl rfl ⟨rfl, rfl, rfl, rfl, rfl⟩ rfl rfl rfl rfl rfl (by kernel_rfl) Tryz.func4 (by kernel_rfl)
    (of_decide_eq_true (by kernel_rfl)) (by unfold Func.isWrapper; first | (rw [if_pos (by decide +kernel)]; kernel_rfl) | (rw [if_neg (by decide +kernel)]; exact ⟨rfl, rfl⟩))
    (fun os started H enc _ => simplexPoints_lifted os started H enc)
end Go.Proofs.YtfgejnedaijjiaaGreat
