/- At every input the call answers true and leaves its arguments as they were; no conditions. -/
import Derived.Test.YtfgejnedaijjiaaGreatDe
import Derived.Test.YtfgejnedaijjiaaGreatCb
import Derived.Test.YtfgejnedaijjiaaGreatQz
set_option linter.unusedSimpArgs false
set_option linter.unusedVariables false
namespace Go.Proofs.YtfgejnedaijjiaaGreat
open Go Go.Abs
set_option maxHeartbeats 16000000
set_option maxRecDepth 100000 in
theorem p_SimplexTells (a : List LL) (ja : a.length ≤ maxLen) (ka : ∀ l ∈ a, LLok l) (x : List QQ) (jx : x.length ≤ maxLen) (f : List QQ) (jf : f.length ≤ maxLen) :
    PCall Tryz.prog 7 [.one (eL cL a), tLQ x, tLQ f] (tB true) := by
  have hk := known19
  have q1 := fewLins19 a ja ka
  have q2 := fewRats19 x jx
  have q3 := fewRats19 f jf
  refine pcall_of_wpA mixed Tryz.call7 Tryz.func7 rfl Tryz.ntmps7 Tryz.results7 (by simp) (by decide) ?_
  by_cases c1 : FLs a
  · have q1 := tB_of q1 c1
    by_cases c2 : FR x
    · have q2 := tB_of q2 c2
      by_cases c3 : FR f
      · have q3 := tB_of q3 c3
        have hbl := c1.blD ka
        have hd := c1.2
        have hat := fun l (hl : l ∈ a) => f6_AtRat l x (N := 8) (L := 4) (K := 3) (by decide) (by decide) (by decide) (by decide) (by decide) (hbl l hl) (by have := c2.2; omega) c2.1
        have hat2 := fun l (hl : l ∈ a) => s_At l x (N := 8) (L := 4) (K := 3) (by decide) (by decide) (by decide) (by decide) (by decide) (hbl l hl) (by have := c2.2; omega) c2.1
        have hlq : ∀ l, l ∈ a → lQ (atQ (lv l) (ptQ x)) < 4000 := fun l hl => by
          have h := lQ_atQ (N := 8) (L := 4) (K := 3) (by decide) (Bd_lv (hbl l hl)) (p := ptQ x) (lQ_ptQ (by decide) c2.1) (lv l).1.length
          rw [List.take_length] at h
          have h2 := (Bd_lv (hbl l hl)).1
          have h3 : (lv l).1.length * (4 + 3 + 1) ≤ 8 * 8 := Nat.mul_le_mul h2 (by decide)
          unfold atQ; omega
        have hfl := c3.2
        have su := s_Sum a f (A := 10) (N := 8) (L := 4) (K := 3) (V := 101) hd (by decide) (by omega) (by decide) (by decide) (by decide) (by decide) (by decide) hbl c1.lastVD (by decide) c3.1
        have fu := f6_Sum a f (A := 10) (N := 8) (L := 4) (K := 3) (V := 101) hd (by decide) (by omega) (by decide) (by decide) (by decide) (by decide) (by decide) hbl c1.lastVD (by decide) c3.1
        have hbf : ∀ g ∈ a.map lv, Bd 8 4 g := fun g hg => by
          obtain ⟨l, hl, rfl⟩ := List.mem_map.1 hg
          exact Bd_lv (hbl l hl)
        have hqf : ∀ q ∈ f.map qQ, lQ q ≤ 3 := fun q hq => by
          obtain ⟨r, hr, rfl⟩ := List.mem_map.1 hq
          have := lQ_qv r.1 r.2.1 r.2.2
          have := c3.1 r hr
          unfold qQ; omega
        have hm : min a.length f.length * (4 + 3 + 1) ≤ 10 * 8 := Nat.mul_le_mul (by omega) (by decide)
        have lG : ∀ q ∈ fnL (nV (a.map lv)) (cS (a.map lv) (f.map qQ) (min a.length f.length)), lQ q < 4000 := fun q hq => by
          obtain ⟨v, hv, rfl⟩ := List.mem_iff_getElem.1 hq
          rw [fnL_get]
          have := lQ_cS (N := 8) (by decide) (by decide) hbf hqf v (min a.length f.length)
          omega
        have lK : lQ (kS (a.map lv) (f.map qQ) (min a.length f.length)) < 4000 := by
          have := lQ_kS (N := 8) (by decide) (by decide) hbf hqf (min a.length f.length)
          omega
        have hGl : (fnL (nV (a.map lv)) (cS (a.map lv) (f.map qQ) (min a.length f.length))).length ≤ 101 := by
          rw [fnL_len]
          have := nV_le (ls := a.map lv) (B := 101) (fun g hg => by obtain ⟨l, hl, rfl⟩ := List.mem_map.1 hg; exact c1.lastVD l hl) (a.map lv).length
          rwa [List.take_length] at this
        generalize fnL (nV (a.map lv)) (cS (a.map lv) (f.map qQ) (min a.length f.length)) = G at *
        generalize kS (a.map lv) (f.map qQ) (min a.length f.length) = k at *
        have eqK := tB_of (r_EqualRat_e k k lK lK) rfl
        simp only [go_sem]
        ((repeat (refine regA_by 0 rfl ?_; simp only [go_sem])); refine call_pure (hk) rfl ?_; simp only [go_sem]; (repeat (refine regA_by 0 rfl ?_; simp only [go_sem])); refine call_pure (q1) rfl ?_; simp only [go_sem]; (repeat (refine regA_by 0 rfl ?_; simp only [go_sem])); refine call_pure (q2) rfl ?_; simp only [go_sem]; (repeat (refine regA_by 0 rfl ?_; simp only [go_sem])); refine call_pure (q3) rfl ?_; simp only [go_sem]; (repeat (refine regA_by 0 rfl ?_; simp only [go_sem])); refine call_pure (su) rfl ?_; simp only [go_sem]; (repeat (refine regA_by 0 rfl ?_; simp only [go_sem])); refine call_pure (fu) rfl ?_; simp only [go_sem]; (repeat (refine regA_by 0 rfl ?_; simp only [go_sem])); refine call_pure (eqK) rfl ?_; simp only [go_sem]; (repeat (refine regA_by 0 rfl ?_; simp only [go_sem])))
        refine loop_inv (fun i : Nat => stL 87 [(0, .one (.t (eL cL a))), (1, aLQ x), (7, aLR G), (9, aLR G), (11, litI .i64 i)] []) (fun i => i ≤ G.length) (fun i => G.length - i) 0 ?_ (Nat.zero_le _) ?_
        · (refine gstep_list rfl ?_ ?_ ?_ ?_ <;> (try simp only [go_sem, tail_one]) <;> (try simp))
        · intro i hi
          simp only [go_sem]
          refine CondR_if (fun hlt => ?_) (fun hge => ?_)
          · have hlt' : i < G.length := by omega
            have hel : elemD cR G i = cR G[i] := elemD_lt hlt'
            have hq := lG _ (List.getElem_mem hlt')
            have e1 := tB_of (r_EqualRat_e G[i] G[i] hq hq) rfl
            generalize G[i] = q at *
            simp only [go_sem, hel, hlt]
            refine regA_by 0 rfl ?_
            simp only [go_sem, hel, hlt]
            (repeat (refine And.intro (by omega) ?_))
            ((repeat (refine regA_by 0 rfl ?_; simp only [go_sem, hel, hlt])); refine call_pure (e1) rfl ?_; simp only [go_sem, hel, hlt]; (repeat (refine regA_by 0 rfl ?_; simp only [go_sem, hel, hlt])))
            refine ⟨i + 1, hlt', (by show G.length - (i + 1) < G.length - i; omega), ?_⟩
            (refine gstep_list rfl ?_ ?_ ?_ ?_ <;> (try simp only [go_sem, tail_one, wrap_i64 (n := (i : Int) + 1) (by omega) (by omega)]) <;> (try simp))
          · obtain rfl : i = G.length := by omega
            simp only [go_sem]
            refine loop_inv (fun j : Nat => stL 87 [(0, .one (.t (eL cL a))), (1, aLQ x), (12, litI .i64 j)] []) (fun j => j ≤ a.length) (fun j => a.length - j) 0 ?_ (Nat.zero_le _) ?_
            · (refine gstep_list rfl ?_ ?_ ?_ ?_ <;> (try simp only [go_sem, tail_one]) <;> (try simp))
            · intro j hj
              simp only [go_sem]
              refine CondR_if (fun hlt => ?_) (fun hge => ?_)
              · have hlt' : j < a.length := by omega
                have hel : elemD cL a j = cL a[j] := elemD_lt hlt'
                have hm := List.getElem_mem hlt'
                have o1 := hat _ hm
                have o2 := hat2 _ hm
                have hq := hlq _ hm
                have e1 := tB_of (r_EqualRat_e _ _ hq hq) rfl
                generalize a[j] = l at *
                generalize atQ (lv l) (ptQ x) = r at *
                simp only [go_sem, hel, hlt]
                refine regA_by 0 rfl ?_
                simp only [go_sem, hel, hlt]
                (repeat (refine And.intro (by omega) ?_))
                refine call_pure o2 rfl ?_
                simp only [go_sem, hel, hlt]
                (repeat (refine And.intro (by omega) ?_))
                ((repeat (refine regA_by 0 rfl ?_; simp only [go_sem, hel, hlt])); refine call_pure (o1) rfl ?_; simp only [go_sem, hel, hlt]; (repeat (refine regA_by 0 rfl ?_; simp only [go_sem, hel, hlt])); refine call_pure (e1) rfl ?_; simp only [go_sem, hel, hlt]; (repeat (refine regA_by 0 rfl ?_; simp only [go_sem, hel, hlt])))
                refine ⟨j + 1, hlt', (by show a.length - (j + 1) < a.length - j; omega), ?_⟩
                (refine gstep_list rfl ?_ ?_ ?_ ?_ <;> (try simp only [go_sem, tail_one, wrap_i64 (n := (j : Int) + 1) (by omega) (by omega)]) <;> (try simp))
              · simp only [go_sem]
      · have q3 := tB_not q3 c3
        simp only [go_sem]
        ((repeat (refine regA_by 0 rfl ?_; simp only [go_sem])); refine call_pure (hk) rfl ?_; simp only [go_sem]; (repeat (refine regA_by 0 rfl ?_; simp only [go_sem])); refine call_pure (q1) rfl ?_; simp only [go_sem]; (repeat (refine regA_by 0 rfl ?_; simp only [go_sem])); refine call_pure (q2) rfl ?_; simp only [go_sem]; (repeat (refine regA_by 0 rfl ?_; simp only [go_sem])); refine call_pure (q3) rfl ?_; simp only [go_sem]; (repeat (refine regA_by 0 rfl ?_; simp only [go_sem])))
    · have q2 := tB_not q2 c2
      simp only [go_sem]
      ((repeat (refine regA_by 0 rfl ?_; simp only [go_sem])); refine call_pure (hk) rfl ?_; simp only [go_sem]; (repeat (refine regA_by 0 rfl ?_; simp only [go_sem])); refine call_pure (q1) rfl ?_; simp only [go_sem]; (repeat (refine regA_by 0 rfl ?_; simp only [go_sem])); refine call_pure (q2) rfl ?_; simp only [go_sem]; (repeat (refine regA_by 0 rfl ?_; simp only [go_sem])))
  · have q1 := tB_not q1 c1
    simp only [go_sem]
    ((repeat (refine regA_by 0 rfl ?_; simp only [go_sem])); refine call_pure (hk) rfl ?_; simp only [go_sem]; (repeat (refine regA_by 0 rfl ?_; simp only [go_sem])); refine call_pure (q1) rfl ?_; simp only [go_sem]; (repeat (refine regA_by 0 rfl ?_; simp only [go_sem])))
end Go.Proofs.YtfgejnedaijjiaaGreat
namespace Go.Proofs.YtfgejnedaijjiaaGreat
open Go Go.Abs Go.ChangeShapes Go.WideShapes Go.ChangeAt Go.RowKit
set_option maxRecDepth 100000
theorem simplexTells_lifted (os : Os) (started : os.Started) (H : Type) (enc : TypeId × Value → H) :
    ReturnsInHanded {} Tryz.checked os 7 .any (Rows.simplexTellsSpec.pre6 enc Tryz.prog Tryz.f7 Rows.simplexTellsRow.domain false) (Rows.simplexTellsSpec.post enc Tryz.prog Tryz.f7 false true false false) := by
  refine returnsInHanded_of_change (C := Tryz.checked) Tryz.ownK started (by kernel_rfl) Tryz.func7
    (ChangeSpec.witness6 (enc := enc) (C := Tryz.checked) false ⟨#[], #[.slice none 0 0, .slice none 0 0, .slice none 0 0], []⟩ 8 (by kernel_rfl) (by kernel_rfl) (by kernel_rfl) (by kernel_rfl)) ?_
  intro W base args ds gs before hval hW _ _
  refine row_of_pcall (S := plainS) (tb := 4) plain_ok Tryz.laidOut (by intro t ht; revert t; decide +kernel) rfl Tryz.underlying4 rfl (fun ds h => ?_) (fun tvs h => ?_) hval hW
  · match ds, h with
    | [d0, d1, d2], _ => rfl
  · obtain ⟨x0, _, rfl, h0, h⟩ := wtvs_cons h
    obtain ⟨x1, _, rfl, h1, h⟩ := wtvs_cons h
    obtain ⟨x2, _, rfl, h2, h⟩ := wtvs_cons h
    obtain rfl := wtvs_nil h
    obtain ⟨l0, rfl, j0, k0⟩ := wtv_Lins h0
    obtain ⟨l1, rfl, j1⟩ := wtv_Rats h1
    obtain ⟨l2, rfl, j2⟩ := wtv_Rats h2
    exact p_SimplexTells l0 j0 k0 l1 j1 l2 j2

theorem simplexTells_holds : Rows.SimplexTellsSaid :=
  OpenClaim.holds_of_wide 7 Tryz.f7 rfl rfl rfl rfl rfl rfl rfl ⟨rfl, rfl, rfl, rfl, rfl⟩ rfl rfl rfl rfl rfl (by kernel_rfl) Tryz.func7 (by kernel_rfl)
    (of_decide_eq_true (by kernel_rfl)) (by unfold Func.isWrapper; first | (rw [if_pos (by decide +kernel)]; kernel_rfl) | (rw [if_neg (by decide +kernel)]; exact ⟨rfl, rfl⟩))
    (fun os started H enc _ => simplexTells_lifted os started H enc)
end Go.Proofs.YtfgejnedaijjiaaGreat
