/- At every input the call answers true and leaves its arguments as they were; no conditions. -/
import Derived.Test.YtjmbhknhiakkpaaGreatUe
import Derived.Test.YtjmbhknhiakkpaaGreatQz
set_option linter.unusedSimpArgs false
set_option linter.unusedVariables false
namespace Go.Proofs.YtjmbhknhiakkpaaGreat
open Go Go.Abs
set_option maxHeartbeats 64000000
set_option maxRecDepth 100000 in
theorem p_HermiteSolves (a : List (List RI)) (ja : a.length ≤ 9223372036854775807) (ka : ∀ r ∈ a, r.length ≤ 9223372036854775807 ∧ ∀ p ∈ r, p.2.length ≤ 9223372036854775807) (b : List RI) (jb : b.length ≤ 9223372036854775807) (kb : ∀ p ∈ b, p.2.length ≤ 9223372036854775807) (n : Int) (n1 : 0 ≤ n) (n2 : n < 256) :
    PCall Tryz.prog 3 [.one (eW a), .one (eL cI b), tI .u8 n] (tB true) := by
  have hk := known20
  have q1 := few20 a ja ka
  obtain ⟨N, rfl⟩ : ∃ N : Nat, n = N := ⟨n.toNat, by omega⟩
  have hT : Int.tmod (N : Int) 6 = ((N % 6 : Nat) : Int) := rfl
  obtain ⟨k, hk6, hke⟩ : ∃ k, k < 6 ∧ N % 6 = k := ⟨_, Nat.mod_lt _ (by decide), rfl⟩
  rw [hke] at hT
  have w1 : IntKind.i64.wrap (k : Int) = k := wrap_i64 (by omega) (by omega)
  refine pcall_of_wpA mixed Tryz.call3 Tryz.func3 rfl Tryz.ntmps3 Tryz.results3 (by simp) (by decide) ?_
  by_cases c1 : FW a
  rotate_left
  · have q1 := tB_not q1 c1
    simp only [go_sem]
    ((repeat (refine regA_by 0 rfl ?_; simp only [go_sem, hT, w1])); refine call_pure (hk) rfl ?_; simp only [go_sem, hT, w1]; (repeat (refine regA_by 0 rfl ?_; simp only [go_sem, hT, w1])); refine call_pure (q1) rfl ?_; simp only [go_sem, hT, w1]; (repeat (refine regA_by 0 rfl ?_; simp only [go_sem, hT, w1])))
  have q1 := tB_of q1 c1
  obtain ⟨m, hm⟩ : ∃ m, m = b.length := ⟨_, rfl⟩
  by_cases c2 : 8 < m
  · have c2' : ((8 : Int) < (m : Int)) = True := eq_true (by omega)
    simp only [go_sem]
    ((repeat (refine regA_by 0 rfl ?_; simp only [go_sem, hT, w1, ← hm, c2'])); refine call_pure (hk) rfl ?_; simp only [go_sem, hT, w1, ← hm, c2']; (repeat (refine regA_by 0 rfl ?_; simp only [go_sem, hT, w1, ← hm, c2'])); refine call_pure (q1) rfl ?_; simp only [go_sem, hT, w1, ← hm, c2']; (repeat (refine regA_by 0 rfl ?_; simp only [go_sem, hT, w1, ← hm, c2'])))
  have c2' : ((8 : Int) < (m : Int)) = False := eq_false (by omega)
  have la := c1.LR
  have h6 := c1.2
  simp only [go_sem]
  ((repeat (refine regA_by 0 rfl ?_; simp only [go_sem, hT, w1, ← hm, c2'])); refine call_pure (hk) rfl ?_; simp only [go_sem, hT, w1, ← hm, c2']; (repeat (refine regA_by 0 rfl ?_; simp only [go_sem, hT, w1, ← hm, c2'])); refine call_pure (q1) rfl ?_; simp only [go_sem, hT, w1, ← hm, c2']; (repeat (refine regA_by 0 rfl ?_; simp only [go_sem, hT, w1, ← hm, c2'])))
  refine loop_inv (fun i : Nat => stL 98 [(0, .one (.t (eW a))), (1, .one (.t (eL cI b))), (6, litB false), (7, litI .i64 k), (8, litI .i64 i)] []) (fun i => i ≤ m ∧ ∀ p ∈ b.take i, p.2.length ≤ 2) (fun i => m - i) 0 ?_ ⟨Nat.zero_le _, by rw [List.take_zero]; intro r hr; cases hr⟩ ?_
  · (refine gstep_list rfl ?_ ?_ ?_ ?_ <;> (try simp only [go_sem, tail_one]) <;> (try simp))
  · rintro i ⟨hi, hinv⟩
    simp only [go_sem, ← hm]
    refine CondR_if (fun hlt => ?_) (fun hge => ?_)
    · have hlb : i < b.length := by omega
      have f1 : elemD cI b i = cI b[i] := elemD_lt hlb
      have hI1 : ((i : Int) < (m : Int)) = True := eq_true (by omega)
      have hpl := kb _ (List.getElem_mem hlb)
      have hnx : b[i].2.length ≤ 2 → ∀ p ∈ b.take (i + 1), p.2.length ≤ 2 := fun h p hp => by
        rw [take_snoc hlb] at hp
        rcases List.mem_append.1 hp with hp | hp
        · exact hinv p hp
        · obtain rfl := List.mem_singleton.1 hp; exact h
      generalize b[i] = p at *
      simp only [go_sem, f1, hI1, cI_len, ← hm]
      (repeat (refine And.intro (by omega) ?_))
      simp only [go_sem, f1, hI1, cI, ← hm]
      (repeat (refine And.intro (by omega) ?_))
      by_cases c3 : p.2.length ≤ 2
      · have c3' : ((2 : Int) < (p.2.length : Int)) = False := eq_false (by omega)
        simp only [go_sem, c3']
        refine ⟨i + 1, ⟨by omega, hnx c3⟩, (by show m - (i + 1) < m - i; omega), ?_⟩
        (refine gstep_list rfl ?_ ?_ ?_ ?_ <;> (try simp only [go_sem, tail_one, wrap_i64 (n := (i : Int) + 1) (by omega) (by omega)]) <;> (try simp))
      · have c3' : ((2 : Int) < (p.2.length : Int)) = True := eq_true (by omega)
        simp only [go_sem, c3']
    · obtain rfl : i = m := by omega
      rw [hm, List.take_length] at hinv
      have lb : LR 3 b := ⟨by omega, fun p hp => Nat.le_trans (hinv p hp) (by decide)⟩
      obtain ⟨S, pv, kk, T, hp, hv, hTR, hgood, hbad, hLB, hS⟩ := solve_any a b k (by omega) h6 la lb
      simp only [go_sem]
      by_cases c3 : T < a.length
      · unfold solT at hS
        rw [if_pos c3] at hS
        obtain ⟨f, hf⟩ : ∃ f, f = rsF S pv T (oftS S pv kk (atR b) T) T := ⟨_, rfl⟩
        have hr := r_reason a b k a.length f rfl h6 (by omega) la lb (fun j => by
            rw [hf]
            by_cases e : j < a.length
            · exact (hLB.rs c3).out T (Nat.le_refl _) j e
            · rw [rsF_hi (Nat.le_refl _) (by omega)]; have := lQ_zero; omega)
          (fun c hc => by rw [hf]; exact rs_whole hp hv c3 rfl hc)
          (fun w => by rw [hf, rs_right hp c3 hgood]; exact rs_broken hp c3 rfl (hbad c3) w)
        rw [← hf] at hS
        generalize fnG a.length f = g at *
        ((repeat (refine regA_by 0 rfl ?_; simp only [go_sem])); refine call_pure (hS) rfl ?_; simp only [go_sem]; (repeat (refine regA_by 0 rfl ?_; simp only [go_sem])); refine call_pure (hr) rfl ?_; simp only [go_sem]; (repeat (refine regA_by 0 rfl ?_; simp only [go_sem])))
      · unfold solT at hS
        rw [if_neg c3] at hS
        obtain ⟨X, hX⟩ : ∃ X : Nat → Int, X = xSol S pv kk (atR b) k a.length := ⟨_, rfl⟩
        have hXl : ∀ j, j < k → lN (X j) ≤ 150700005 := fun j hj => by
          rw [hX]
          have := xSol_len hLB hj
          omega
        have hsol : ∀ r, r < a.length → smI (fun j => atW a r j * X j) k = atR b r := fun r hr => by rw [hX]; exact solve_sol hp hv (by omega) hgood hr
        rw [← hX] at hS
        obtain ⟨x, hx⟩ : ∃ x, x = fnG k X := ⟨_, rfl⟩
        rw [← hx] at hS
        have hxl : x.length = k := by rw [hx, fnG_len]
        have hxe : ∀ j, j < k → elemD cJ x j = cJ (X j) := fun j hj => by rw [elemD_lt (by omega)]; subst hx; rw [fnG_get]
        obtain ⟨R, hR⟩ : ∃ R, R = a.length := ⟨_, rfl⟩
        ((repeat (refine regA_by 0 rfl ?_; simp only [go_sem, hxl])); refine call_pure (hS) rfl ?_; simp only [go_sem, hxl]; (repeat (refine regA_by 0 rfl ?_; simp only [go_sem, hxl])))
        refine loop_inv (fun r : Nat => stL 98 [(0, .one (.t (eW a))), (1, .one (.t (eL cI b))), (6, litB false), (7, litI .i64 k), (9, .one (.t (eL cJ x))), (12, litI .i64 r)] []) (fun r => r ≤ R) (fun r => R - r) 0 ?_ (Nat.zero_le _) ?_
        · (refine gstep_list rfl ?_ ?_ ?_ ?_ <;> (try simp only [go_sem, tail_one]) <;> (try simp))
        · intro r hr
          simp only [go_sem, ← hR]
          refine CondR_if (fun hlr => ?_) (fun hgr => ?_)
          · have hlr' : r < R := by omega
            obtain ⟨P, hP⟩ : ∃ P : Nat → Int, P = fun j => atW a r j * X j := ⟨_, rfl⟩
            have hPl : ∀ j, j < k → lN (P j) ≤ 150700008 := fun j hj => by
              rw [hP]
              have h1 := lN_mul (atW a r j) (X j)
              have h2 := lN_atW la r j
              have h3 := hXl j hj
              show lN (atW a r j * X j) ≤ _
              omega
            have hPs : ∀ j, j ≤ k → lN (smI P j) ≤ 150700020 := fun j hj => by
              have := lN_smI (f := P) (C := 150700008) (m := j) fun c hc => hPl c (by omega)
              omega
            simp only [go_sem]
            refine loop_inv (fun j : Nat => stL 98 [(0, .one (.t (eW a))), (1, .one (.t (eL cI b))), (6, litB false), (7, litI .i64 k), (9, .one (.t (eL cJ x))), (12, litI .i64 r), (13, .one (.ptr 13 0)), (14, litI .i64 j)] [(13, (cJ (smI P j)).map .t)]) (fun j => j ≤ k) (fun j => k - j) 0 ?_ (Nat.zero_le _) ?_
            · have hz0 : [C.t (.lit (Value.bool false)), C.t (.seq none [])] = (cJ 0).map .t := by
                show _ = [C.t (.lit (.bool (decide ((0 : Int) < 0)))), C.t (eN (dig 0))]; rw [dig_zero]; rfl
              refine GStep.trans (gstep_weakH 13 (cs := [C.t (.lit (Value.bool false)), C.t (.seq (some true) [])]) (cs' := (cJ (smI P 0)).map .t) (by simp only [go_sem]) (by show WeakL _ ((cJ 0).map .t); rw [← hz0]; exact .cons .refl (.cons .seq .nil))) ?_
              (refine gstep_list rfl ?_ ?_ ?_ ?_ <;> (try simp only [go_sem, tail_one]) <;> (try simp only [true_or, or_true, or_false, beq_self_eq_true, and_self, true_and, and_true]))
            · intro j hj
              simp only [go_sem]
              refine CondR_if (fun hlj => ?_) (fun hgj => ?_)
              · have hlj' : j < k := by omega
                have hel := hxe j hlj'
                have hI : ((j : Int) < (k : Int)) = True := eq_true (by omega)
                have p1 := h_Place a r j (L := 3) (by decide) la (by omega) (by omega) (by omega)
                have lb2 := lN_atW la r j
                have lx := hXl j hlj'
                have p2 := i_Mul_e (atW a r j) (X j) (by omega) (by omega)
                have e2 : atW a r j * X j = P j := by rw [hP]
                rw [e2] at p2
                have p3 := i_Add_e (smI P j) (P j) (by have := hPs j hj; omega) (by have := hPl j hlj'; omega)
                have e3 : smI P j + P j = smI P (j + 1) := rfl
                rw [e3] at p3
                simp only [go_sem]
                refine regA_by 0 rfl ?_
                simp only [go_sem, hel, hI, hxl]
                (repeat (refine And.intro (by omega) ?_))
                ((repeat (refine regA_by 0 rfl ?_; simp only [go_sem, hel, hI, hxl])); refine call_pure (p1) rfl ?_; simp only [go_sem, hel, hI, hxl]; (repeat (refine regA_by 0 rfl ?_; simp only [go_sem, hel, hI, hxl])))
                (repeat (refine And.intro (by omega) ?_))
                ((repeat (refine regA_by 0 rfl ?_; simp only [go_sem, hel, hI, hxl])); refine call_pure (p2) rfl ?_; simp only [go_sem, hel, hI, hxl]; (repeat (refine regA_by 0 rfl ?_; simp only [go_sem, hel, hI, hxl])); refine call_pure (p3) rfl ?_; simp only [go_sem, hel, hI, hxl]; (repeat (refine regA_by 0 rfl ?_; simp only [go_sem, hel, hI, hxl])))
                refine ⟨j + 1, hlj', (by show k - (j + 1) < k - j; omega), ?_⟩
                (refine gstep_list rfl ?_ ?_ ?_ ?_ <;> (try simp only [go_sem, tail_one, wrap_i64 (n := (j : Int) + 1) (by omega) (by omega)]) <;> (try simp only [true_or, or_true, or_false, beq_self_eq_true, and_self, true_and, and_true]))
              · obtain rfl : j = k := by omega
                have hs := hsol r (by omega)
                have hs : smI P j = atR b r := by rw [hP]; exact hs
                rw [hs]
                have lb2 := lb.at r
                have p1 := r_right b r (L := 3) (by decide) lb (by omega)
                have p2 := tB_of (i_Equal_e (atR b r) (atR b r) (by omega) (by omega)) rfl
                generalize atR b r = z at *
                simp only [go_sem]
                ((repeat (refine regA_by 0 rfl ?_; simp only [go_sem])); refine call_pure (p1) rfl ?_; simp only [go_sem]; (repeat (refine regA_by 0 rfl ?_; simp only [go_sem])); refine call_pure (p2) rfl ?_; simp only [go_sem]; (repeat (refine regA_by 0 rfl ?_; simp only [go_sem])))
                refine ⟨r + 1, hlr', (by show R - (r + 1) < R - r; omega), ?_⟩
                (refine gstep_list rfl ?_ ?_ ?_ ?_ <;> (try simp only [go_sem, tail_one, wrap_i64 (n := (r : Int) + 1) (by omega) (by omega)]) <;> (try simp only [true_or, or_true, or_false, beq_self_eq_true, and_self, true_and, and_true]))
          · simp only [go_sem]
end Go.Proofs.YtjmbhknhiakkpaaGreat
namespace Go.Proofs.YtjmbhknhiakkpaaGreat
open Go Go.Abs Go.ChangeShapes Go.WideShapes Go.ChangeAt Go.RowKit
set_option maxRecDepth 100000
theorem hermiteSolves_lifted (os : Os) (started : os.Started) (H : Type) (enc : TypeId × Value → H) :
    ReturnsInHanded {} Tryz.checked os 3 .any (Rows.hermiteSolvesSpec.pre6 enc Tryz.prog Tryz.f3 Rows.hermiteSolvesRow.domain false) (Rows.hermiteSolvesSpec.post enc Tryz.prog Tryz.f3 false true false false) := by
  refine returnsInHanded_of_change (C := Tryz.checked) Tryz.ownK started (by kernel_rfl) Tryz.func3
    (ChangeSpec.witness6 (enc := enc) (C := Tryz.checked) false ⟨#[], #[.slice none 0 0, .slice none 0 0, .int .u8 0], []⟩ 8 (by kernel_rfl) (by kernel_rfl) (by kernel_rfl) (by kernel_rfl)) ?_
  intro W base args ds gs before hval hW _ _
  refine row_of_pcall (S := plainS) (tb := 4) plain_ok Tryz.laidOut (by intro t ht; revert t; decide +kernel) rfl Tryz.underlying4 rfl (fun ds h => ?_) (fun tvs h => ?_) hval hW
  · match ds, h with
    | [d0, d1, d2], _ => rfl
  · obtain ⟨x0, _, rfl, h0, h⟩ := wtvs_cons h
    obtain ⟨x1, _, rfl, h1, h⟩ := wtvs_cons h
    obtain ⟨x2, _, rfl, h2, h⟩ := wtvs_cons h
    obtain rfl := wtvs_nil h
    obtain ⟨l0, rfl, j0, k0⟩ := wtv_Mat h0
    obtain ⟨l1, rfl, j1, k1⟩ := wtv_IntsL h1
    obtain ⟨n2, rfl, k2⟩ := wtv_int Tryz.underlying5 h2
    have k2 := wf_u8 k2
    exact p_HermiteSolves l0 j0 k0 l1 j1 k1 n2 k2.1 k2.2

theorem hermiteSolves_holds : Rows.HermiteSolvesSaid :=
  OpenClaim.holds_of_wide 3 Tryz.f3 rfl rfl rfl rfl rfl rfl rfl ⟨rfl, rfl, rfl, rfl, rfl⟩ rfl rfl rfl rfl rfl (by kernel_rfl) Tryz.func3 (by kernel_rfl)
    (of_decide_eq_true (by kernel_rfl)) (by unfold Func.isWrapper; first | (rw [if_pos (by decide +kernel)]; kernel_rfl) | (rw [if_neg (by decide +kernel)]; exact ⟨rfl, rfl⟩))
    (fun os started H enc _ => hermiteSolves_lifted os started H enc)
end Go.Proofs.YtjmbhknhiakkpaaGreat
