/- At every input the call answers true and leaves its arguments as they were; no conditions. -/
import Derived.Test.YtjmbhknhiakkpaaUd
import Derived.Test.YtjmbhknhiakkpaaQz
set_option linter.unusedSimpArgs false
set_option linter.unusedVariables false
namespace Go.Proofs.Ytjmbhknhiakkpaa
open Go Go.Abs
set_option maxHeartbeats 32000000
theorem p_HermiteForms (a : List (List RI)) (ja : a.length ≤ 9223372036854775807) (ka : ∀ r ∈ a, r.length ≤ 9223372036854775807 ∧ ∀ p ∈ r, p.2.length ≤ 9223372036854775807) (n : Int) (n1 : 0 ≤ n) (n2 : n < 256) :
    PCall Try.prog 3 [.one (eW a), tI .u8 n] (tB true) := by
  have hk := known20
  have q1 := few20 a ja ka
  obtain ⟨N, rfl⟩ : ∃ N : Nat, n = N := ⟨n.toNat, by omega⟩
  have hT : Int.tmod (N : Int) 6 = ((N % 6 : Nat) : Int) := rfl
  refine pcall_of_wpA mixed Try.call3 Try.func3 rfl Try.ntmps3 Try.results3 (by simp) (by decide) ?_
  by_cases c1 : FW a
  · have q1 := tB_of q1 c1
    have la := c1.LR
    have h1 := c1.2
    obtain ⟨k, hk6, hke⟩ : ∃ k, k < 6 ∧ N % 6 = k := ⟨_, Nat.mod_lt _ (by decide), rfl⟩
    rw [hke] at hT
    obtain ⟨S, hS⟩ : ∃ S, S = (madeS (atW a) k a.length a.length).1 := ⟨_, rfl⟩
    have hSd := madeS_dim (a := atW a) (n := k) (R := a.length) a.length
    have hi := madeS_inv (a := atW a) (n := k) (R := a.length) a.length
    have hout := few_out la (n := k) (by omega)
    have hsh := made_shp (a := atW a) (n := k) (R := a.length) (by omega) fun r c _ _ => atW_nat la r c
    rw [← hS] at hSd hi hout hsh
    have hee : eeB k / 29 + 1 ≤ 7200000 := by
      have := eeB_mono (i := k) (j := 5) (by omega)
      rw [eeB5] at this; omega
    have o1 := h_Form a k (K := 7200000) (L := 2) (by decide) (by decide) (by omega) (by omega) la (few_made5 la (by omega)) hS
    rw [hSd.1, hSd.2] at o1
    obtain ⟨h, hh⟩ : ∃ h, h = rawM a.length k S.h := ⟨_, rfl⟩
    obtain ⟨u, hu⟩ : ∃ u, u = rawM k k S.u := ⟨_, rfl⟩
    obtain ⟨v, hv⟩ : ∃ v, v = rawM k k S.v := ⟨_, rfl⟩
    rw [← hh, ← hu, ← hv] at o1
    have hl : h.length = a.length := by rw [hh, rawM_len]
    have ul : u.length = k := by rw [hu, rawM_len]
    have vl : v.length = k := by rw [hv, rawM_len]
    have lh : ∀ r ∈ h, LR 7200000 r := by rw [hh]; exact LR_raw (by omega) fun i j h1 h2 => Nat.le_trans (hout.h i j (by omega) (by omega)) hee
    have lu : ∀ r ∈ u, LR 7200000 r := by rw [hu]; exact LR_raw (by omega) fun i j h1 h2 => Nat.le_trans (hout.u i j (by omega) (by omega)) hee
    have lv : ∀ r ∈ v, LR 7200000 r := by rw [hv]; exact LR_raw (by omega) fun i j h1 h2 => Nat.le_trans (hout.v i j (by omega) (by omega)) hee
    have o2 := h_Shape h k (fun i => (madeS (atW a) k a.length i).2) (L := 7200000) (by decide) lh (by omega) (by omega) (by
      rw [hl]
      refine hsh.congr fun i j hi hj => ?_
      rw [hh, atW_raw hi hj])
    have o3 := r_Unit k (by omega)
    have o4 := r_Mul a u k k (L := 7200000) (by decide) (fun r hr => (la r hr).mono (by decide)) lu (by omega) (by omega) (by omega) (by omega)
    rw [show rawM a.length k (fun i c => smI (fun j => atW a i j * atW u j c) k) = h from by
      rw [hh]
      exact rawM_congr fun i j h1 h2 => by
        rw [hi.hau i h1 j h2]
        exact smI_congr fun c hc => by rw [hu, atW_raw hc h2]] at o4
    have o5 := tB_of (h_Equal h h (L := 7200000) (by decide) lh lh (by omega) (by omega)) rfl
    have o6 := r_Mul u v k k (L := 7200000) (by decide) lu lv (by omega) (by omega) (by omega) (by omega)
    rw [show rawM u.length k (fun i c => smI (fun j => atW u i j * atW v j c) k) = rawM k k dlt from by
      rw [ul]
      exact rawM_congr fun i j h1 h2 => by
        show _ = if i = j then 1 else 0
        rw [← hi.uv i j h1 h2]
        exact smI_congr fun c hc => by rw [hu, hv, atW_raw hc h2, atW_raw h1 hc]] at o6
    have o7 := r_Mul v u k k (L := 7200000) (by decide) lv lu (by omega) (by omega) (by omega) (by omega)
    rw [show rawM v.length k (fun i c => smI (fun j => atW v i j * atW u j c) k) = rawM k k dlt from by
      rw [vl]
      exact rawM_congr fun i j h1 h2 => by
        show _ = if i = j then 1 else 0
        rw [← hi.vu i j h1 h2]
        exact smI_congr fun c hc => by rw [hu, hv, atW_raw hc h2, atW_raw h1 hc]] at o7
    have ld : ∀ r ∈ rawM k k dlt, LR 2 r := LR_raw (by omega) fun i j _ _ => by
      have : lN (dlt i j) ≤ 1 := lN_small (by unfold dlt; split <;> decide)
      omega
    have o8 := tB_of (h_Equal (rawM k k dlt) (rawM k k dlt) (L := 2) (by decide) ld ld (by rw [rawM_len]; omega) (by rw [rawM_len]; omega)) rfl
    generalize rawM k k dlt = one at *
    have w1 : IntKind.i64.wrap (k : Int) = k := wrap_i64 (by omega) (by omega)
    simp only [go_sem]
    ((repeat (refine regA_by 0 rfl ?_; simp only [go_sem, hT, w1])); refine call_pure (hk) rfl ?_; simp only [go_sem, hT, w1]; (repeat (refine regA_by 0 rfl ?_; simp only [go_sem, hT, w1])); refine call_pure (q1) rfl ?_; simp only [go_sem, hT, w1]; (repeat (refine regA_by 0 rfl ?_; simp only [go_sem, hT, w1])))
    ((repeat (refine regA_by 0 rfl ?_; simp only [go_sem, hT, w1, hl, ul, vl])); refine call_pure (o1) rfl ?_; simp only [go_sem, hT, w1, hl, ul, vl]; (repeat (refine regA_by 0 rfl ?_; simp only [go_sem, hT, w1, hl, ul, vl])); refine call_pure (o2) rfl ?_; simp only [go_sem, hT, w1, hl, ul, vl]; (repeat (refine regA_by 0 rfl ?_; simp only [go_sem, hT, w1, hl, ul, vl])); refine call_pure (o3) rfl ?_; simp only [go_sem, hT, w1, hl, ul, vl]; (repeat (refine regA_by 0 rfl ?_; simp only [go_sem, hT, w1, hl, ul, vl])); refine call_pure (o4) rfl ?_; simp only [go_sem, hT, w1, hl, ul, vl]; (repeat (refine regA_by 0 rfl ?_; simp only [go_sem, hT, w1, hl, ul, vl])); refine call_pure (o5) rfl ?_; simp only [go_sem, hT, w1, hl, ul, vl]; (repeat (refine regA_by 0 rfl ?_; simp only [go_sem, hT, w1, hl, ul, vl])); refine call_pure (o6) rfl ?_; simp only [go_sem, hT, w1, hl, ul, vl]; (repeat (refine regA_by 0 rfl ?_; simp only [go_sem, hT, w1, hl, ul, vl])); refine call_pure (o8) rfl ?_; simp only [go_sem, hT, w1, hl, ul, vl]; (repeat (refine regA_by 0 rfl ?_; simp only [go_sem, hT, w1, hl, ul, vl])); refine call_pure (o7) rfl ?_; simp only [go_sem, hT, w1, hl, ul, vl]; (repeat (refine regA_by 0 rfl ?_; simp only [go_sem, hT, w1, hl, ul, vl])); refine call_pure (o8) rfl ?_; simp only [go_sem, hT, w1, hl, ul, vl]; (repeat (refine regA_by 0 rfl ?_; simp only [go_sem, hT, w1, hl, ul, vl])))
  · have q1 := tB_not q1 c1
    simp only [go_sem]
    ((repeat (refine regA_by 0 rfl ?_; simp only [go_sem])); refine call_pure (hk) rfl ?_; simp only [go_sem]; (repeat (refine regA_by 0 rfl ?_; simp only [go_sem])); refine call_pure (q1) rfl ?_; simp only [go_sem]; (repeat (refine regA_by 0 rfl ?_; simp only [go_sem])))
end Go.Proofs.Ytjmbhknhiakkpaa
namespace Go.Proofs.Ytjmbhknhiakkpaa
open Go Go.Abs Go.ChangeShapes Go.WideShapes Go.ChangeAt Go.RowKit
set_option maxRecDepth 100000
theorem hermiteForms_lifted (os : Os) (started : os.Started) (H : Type) (enc : TypeId × Value → H) :
    ReturnsInHanded {} Try.checked os 3 .any (Rows.hermiteFormsSpec.pre6 enc Try.prog Try.f3 Rows.hermiteFormsRow.domain false) (Rows.hermiteFormsSpec.post enc Try.prog Try.f3 false true false false) := by
  refine returnsInHanded_of_change (C := Try.checked) Try.ownK started (by kernel_rfl) Try.func3
    (ChangeSpec.witness6 (enc := enc) (C := Try.checked) false ⟨#[], #[.slice none 0 0, .int .u8 0], []⟩ 8 (by kernel_rfl) (by kernel_rfl) (by kernel_rfl) (by kernel_rfl)) ?_
  intro W base args ds gs before hval hW _ _
  refine row_of_pcall (S := plainS) (tb := 4) plain_ok Try.laidOut (by intro t ht; revert t; decide +kernel) rfl Try.underlying4 rfl (fun ds h => ?_) (fun tvs h => ?_) hval hW
  · match ds, h with
    | [d0, d1], _ => rfl
  · obtain ⟨x0, _, rfl, h0, h⟩ := wtvs_cons h
    obtain ⟨x1, _, rfl, h1, h⟩ := wtvs_cons h
    obtain rfl := wtvs_nil h
    obtain ⟨l0, rfl, j0, k0⟩ := wtv_Mat h0
    obtain ⟨n1, rfl, k1⟩ := wtv_int Try.underlying5 h1
    have k1 := wf_u8 k1
    exact p_HermiteForms l0 j0 k0 n1 k1.1 k1.2

theorem hermiteForms_holds : Rows.HermiteFormsSaid :=
  OpenClaim.holds_of_wide 3 Try.f3 rfl rfl rfl rfl rfl rfl rfl ⟨rfl, rfl, rfl, rfl, rfl⟩ rfl rfl rfl rfl rfl (by kernel_rfl) Try.func3 (by kernel_rfl)
    (of_decide_eq_true (by kernel_rfl)) (by unfold Func.isWrapper; first | (rw [if_pos (by decide +kernel)]; kernel_rfl) | (rw [if_neg (by decide +kernel)]; exact ⟨rfl, rfl⟩))
    (fun os started H enc _ => hermiteForms_lifted os started H enc)
end Go.Proofs.Ytjmbhknhiakkpaa
