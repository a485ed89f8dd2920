/- At every input the call answers true and leaves its arguments as they were; no conditions. -/
import Derived.Test.YtjmbhknhiakkpaaGreatUd
import Derived.Test.YtjmbhknhiakkpaaGreatNw
set_option linter.unusedSimpArgs false
set_option linter.unusedVariables false
namespace Go.Proofs.YtjmbhknhiakkpaaGreat
open Go Go.Abs
set_option maxHeartbeats 32000000
theorem r_right (b : List RI) (i : Nat) {L : Nat} (hL : L ≤ 10000000000) (hl : LR L b) (hi : i < 1000000000) : PCall Tryz.prog 11 [.one (eL cI b), tI .i64 i] (eI (atR b i)) := by
  have hl1 := hl.1
  have z : eI 0 = gI false [] := by show gI (decide ((0 : Int) < 0)) (dig 0) = _; rw [dig_zero]; rfl
  refine pcall_of_wpA mixed Tryz.call11 Tryz.func11 rfl Tryz.ntmps11 Tryz.results11 (by simp) (by decide) ?_
  by_cases c : i < b.length
  · have hel : elemD cI b i = cI b[i] := elemD_lt c
    have hb := hl.2 _ (List.getElem_mem c)
    have hI : ((i : Int) < (b.length : Int)) = True := eq_true (by omega)
    have hI2 : ((b.length : Int) ≤ (i : Int)) = False := eq_false (by omega)
    rw [atR_lt c]
    generalize b[i] = p at *
    have o1 := i_May p.1 p.2 (by omega)
    simp only [go_sem, hel, hI, hI2, cI_len]
    (repeat (refine And.intro (by omega) ?_))
    simp only [go_sem, hel, hI, hI2, cI]
    ((repeat (refine regA_by 0 rfl ?_; simp only [go_sem, hel, hI, hI2, cI])); refine call_pure (o1) rfl ?_; simp only [go_sem, hel, hI, hI2, cI]; (repeat (refine regA_by 0 rfl ?_; simp only [go_sem, hel, hI, hI2, cI])))
    exact fz_agg2 .t .t
  · have hI2 : ((b.length : Int) ≤ (i : Int)) = True := eq_true (by omega)
    rw [atR_ge (by omega), z]
    simp only [go_sem, hI2]
    exact fz_agg2 .t .weak
end Go.Proofs.YtjmbhknhiakkpaaGreat
namespace Go.Proofs.YtjmbhknhiakkpaaGreat
open Go Go.Abs
set_option maxHeartbeats 32000000
theorem rI_e (q : Rat) (hq : lQ q < 1900000000) : PCall Tryz.prog 27 [eQ q] (tB true) := by
  have := r_IsRat (decide (q.num < 0)) (dig q.num.natAbs) (dig q.den) (by have := lQ_num q; unfold lN at this; omega) (by have := lQ_den q; rw [lN_nat'] at this; omega)
  rwa [decide_eq_true (IsQ_eQ q)] at this
theorem smQ_len {F : Nat → Rat} {B : Nat} (h : ∀ j, lQ (F j) ≤ B) : ∀ i, lQ (smQ F i) ≤ 1 + i * (B + 1)
  | 0 => by have := lQ_zero; show lQ 0 ≤ _; omega
  | i + 1 => by
    have h1 := smQ_len h i
    have h2 := lQ_add (smQ F i) (F i)
    have h3 := h i
    show lQ (smQ F i + F i) ≤ _
    rw [Nat.add_mul]; omega
theorem den_whole {q : Rat} {w : Int} (h : q = (w : Rat)) : dig q.den = [1] := by
  rw [h, show (w : Rat).den = 1 from rfl, dig_pos (by decide), show 1 / BB = 0 from by decide, dig_zero]; rfl
theorem den_broken {q : Rat} (h : ∀ w : Int, q ≠ (w : Rat)) : dig q.den ≠ [1] := fun e => by
  have h1 : val (dig q.den) = q.den := val_dig _
  rw [e] at h1
  have h2 : q.den = 1 := by rw [← h1]; rfl
  refine h q.num ?_
  have := Rat.num_divInt_den q
  rw [h2, Rat.divInt_eq_div, Rat.div_def] at this
  have h1 : (((1 : Nat) : Int) : Rat) = 1 := rfl
  rw [h1] at this
  have h3 : (1 : Rat)⁻¹ = 1 := by decide +kernel
  rw [h3, Rat.mul_one] at this
  exact this.symm
set_option maxRecDepth 100000 in
theorem r_reason (a : List (List RI)) (b : List RI) (n R : Nat) (f : Nat → Rat) (hR : R = a.length) (hR6 : R ≤ 6) (hn : n ≤ 5) (ha : ∀ r ∈ a, LR 3 r) (hb : LR 3 b) (hf : ∀ j, lQ (f j) ≤ 140000000)
    (hw : ∀ c, c < n → ∃ w : Int, smQ (fun j => f j * (atW a j c : Rat)) R = (w : Rat)) (hbr : ∀ w : Int, smQ (fun j => f j * (atR b j : Rat)) R ≠ (w : Rat)) :
    PCall Tryz.prog 12 [.one (eW a), .one (eL cI b), .one (eL cR (fnG R f)), tI .i64 n] (tB true) := by
  have o0 := r_RatInt_0
  obtain ⟨F, hF⟩ : ∃ F : Nat → Rat, F = fun j => f j * (atR b j : Rat) := ⟨_, rfl⟩
  obtain ⟨G, hG⟩ : ∃ G : Nat → Nat → Rat, G = fun c j => f j * (atW a j c : Rat) := ⟨_, rfl⟩
  have hli : ∀ z : Int, lN z ≤ 3 → lQ (z : Rat) ≤ 3 := fun z h => by have := lQ_int z; omega
  have hlF : ∀ j, lQ (F j) ≤ 140000003 := fun j => by
    rw [hF]
    have h1 := lQ_mul (f j) (atR b j : Rat)
    have h2 := hf j
    have h3 := hli _ (hb.at j)
    show lQ (f j * (atR b j : Rat)) ≤ _
    omega
  have hlG : ∀ c j, lQ (G c j) ≤ 140000003 := fun c j => by
    rw [hG]
    have h1 := lQ_mul (f j) (atW a j c : Rat)
    have h2 := hf j
    have h3 := hli _ (lN_atW ha j c)
    show lQ (f j * (atW a j c : Rat)) ≤ _
    omega
  have hsF : ∀ i, i ≤ R → lQ (smQ F i) < 1900000000 := fun i hi => by
    have h1 := smQ_len hlF i
    have h2 : i * (140000003 + 1) ≤ 6 * (140000003 + 1) := Nat.mul_le_mul_right _ (by omega)
    omega
  have hsG : ∀ c i, i ≤ R → lQ (smQ (G c) i) < 1900000000 := fun c i hi => by
    have h1 := smQ_len (hlG c) i
    have h2 : i * (140000003 + 1) ≤ 6 * (140000003 + 1) := Nat.mul_le_mul_right _ (by omega)
    omega
  obtain ⟨g, hg⟩ : ∃ g, g = fnG R f := ⟨_, rfl⟩
  have hgl : g.length = R := by rw [hg, fnG_len]
  have hge : ∀ i, i < R → elemD cR g i = cR (f i) := fun i hi => by rw [elemD_lt (by omega)]; subst hg; rw [fnG_get]
  have hlR : ((R : Int) = (a.length : Int)) = True := eq_true (by omega)
  rw [← hg]
  refine pcall_of_wpA mixed Tryz.call12 Tryz.func12 rfl Tryz.ntmps12 Tryz.results12 (by simp) (by decide) ?_
  simp only [go_sem, hgl, hlR]
  ((repeat (refine regA_by 0 rfl ?_; simp only [go_sem])); refine call_pure (o0) rfl ?_; simp only [go_sem]; (repeat (refine regA_by 0 rfl ?_; simp only [go_sem])))
  refine loop_inv (fun i : Nat => stL 79 [(0, .one (.t (eW a))), (1, .one (.t (eL cI b))), (2, .one (.t (eL cR g))), (3, litI .i64 n), (8, litB false), (9, .one (.ptr 9 0)), (10, litI .i64 i)] [(9, (cR (smQ F i)).map .t)]) (fun i => i ≤ R) (fun i => R - i) 0 ?_ (Nat.zero_le _) ?_
  · (refine gstep_list rfl ?_ ?_ ?_ ?_ <;> (try simp only [go_sem, tail_one]) <;> (try simp only [true_or, or_true, or_false, beq_self_eq_true, and_self, true_and, and_true]))
    rfl
  · intro i hi
    simp only [go_sem, hgl]
    refine CondR_if (fun hlt => ?_) (fun hge2 => ?_)
    · have hlt' : i < R := by omega
      have hel := hge i hlt'
      have hI : ((i : Int) < (R : Int)) = True := eq_true (by omega)
      have h1 := hf i
      have p1 := rI_e (f i) (by omega)
      have p2 := r_right b i (L := 3) (by decide) hb (by omega)
      have lb := hb.at i
      have p3 := r_RatInt_e (atR b i) (by omega)
      have p4 := r_MulRat_e (f i) (atR b i : Rat) (by omega) (by have := hli _ lb; omega)
      have e4 : f i * (atR b i : Rat) = F i := by rw [hF]
      rw [e4] at p4
      have p5 := r_AddRat_e (smQ F i) (F i) (hsF i (by omega)) (by have := hlF i; omega)
      have e5 : smQ F i + F i = smQ F (i + 1) := rfl
      rw [e5] at p5
      simp only [go_sem, hel, hI, hgl]
      (repeat (refine And.intro (by omega) ?_))
      ((repeat (refine regA_by 0 rfl ?_; simp only [go_sem, hel, hI, hgl])); refine call_pure (p1) rfl ?_; simp only [go_sem, hel, hI, hgl]; (repeat (refine regA_by 0 rfl ?_; simp only [go_sem, hel, hI, hgl])))
      (repeat (refine And.intro (by omega) ?_))
      ((repeat (refine regA_by 0 rfl ?_; simp only [go_sem, hel, hI, hgl])); refine call_pure (p2) rfl ?_; simp only [go_sem, hel, hI, hgl]; (repeat (refine regA_by 0 rfl ?_; simp only [go_sem, hel, hI, hgl])); refine call_pure (p3) rfl ?_; simp only [go_sem, hel, hI, hgl]; (repeat (refine regA_by 0 rfl ?_; simp only [go_sem, hel, hI, hgl])); refine call_pure (p4) rfl ?_; simp only [go_sem, hel, hI, hgl]; (repeat (refine regA_by 0 rfl ?_; simp only [go_sem, hel, hI, hgl])); refine call_pure (p5) rfl ?_; simp only [go_sem, hel, hI, hgl]; (repeat (refine regA_by 0 rfl ?_; simp only [go_sem, hel, hI, hgl])))
      refine ⟨i + 1, hlt', (by show R - (i + 1) < R - i; omega), ?_⟩
      (refine gstep_list rfl ?_ ?_ ?_ ?_ <;> (try simp only [go_sem, tail_one, wrap_i64 (n := (i : Int) + 1) (by omega) (by omega)]) <;> (try simp only [true_or, or_true, or_false, beq_self_eq_true, and_self, true_and, and_true]))
    · obtain rfl : i = R := by omega
      have hbd : (dig (smQ F i).den = [1]) = False := eq_false (den_broken fun w => by rw [hF]; exact hbr w)
      have t9 := r_SameNat (dig (smQ F i).den) [1] (by have := lQ_den (smQ F i); have := hsF i (Nat.le_refl _); rw [lN_nat'] at *; omega) (by decide)
      have t9 := (tB_not t9 (by rw [hbd]; exact id)).tw (tvs' := [tN (dig (smQ F i).den), .one (.seq (some false) [[.lit (.int .u32 1)]])]) (.cons TVW.refl1 (.cons (.one .weak) .nil))
      generalize smQ F i = sF at *
      simp only [go_sem]
      refine loop_inv (fun c : Nat => stL 79 [(0, .one (.t (eW a))), (2, .one (.t (eL cR g))), (3, litI .i64 n), (8, litB false), (9, .one (.ptr 9 0)), (11, litI .i64 c)] [(9, (cR sF).map .t)]) (fun c => c ≤ n) (fun c => n - c) 0 ?_ (Nat.zero_le _) ?_
      · (refine gstep_list rfl ?_ ?_ ?_ ?_ <;> (try simp only [go_sem, tail_one]) <;> (try simp only [true_or, or_true, or_false, beq_self_eq_true, and_self, true_and, and_true]))
      · intro c hc
        simp only [go_sem]
        refine CondR_if (fun hlc => ?_) (fun hgc => ?_)
        · have hlc' : c < n := by omega
          simp only [go_sem]
          ((repeat (refine regA_by 0 rfl ?_; simp only [go_sem])); refine call_pure (o0) rfl ?_; simp only [go_sem]; (repeat (refine regA_by 0 rfl ?_; simp only [go_sem])))
          refine loop_inv (fun j : Nat => stL 79 [(0, .one (.t (eW a))), (2, .one (.t (eL cR g))), (3, litI .i64 n), (8, litB false), (9, .one (.ptr 9 0)), (11, litI .i64 c), (12, .one (.ptr 12 0)), (13, litI .i64 j)] [(9, (cR sF).map .t), (12, (cR (smQ (G c) j)).map .t)]) (fun j => j ≤ i) (fun j => i - j) 0 ?_ (Nat.zero_le _) ?_
          · (refine gstep_list rfl ?_ ?_ ?_ ?_ <;> (try simp only [go_sem, tail_one]) <;> (try simp only [true_or, or_true, or_false, beq_self_eq_true, and_self, true_and, and_true]))
            all_goals rfl
          · intro j hj
            simp only [go_sem, hgl]
            refine CondR_if (fun hlj => ?_) (fun hgj => ?_)
            · have hlj' : j < i := by omega
              have hel := hge j hlj'
              have hI : ((j : Int) < (i : Int)) = True := eq_true (by omega)
              have h1 := hf j
              have lb := lN_atW ha j c
              have p2 := h_Place a j c (L := 3) (by decide) ha (by omega) (by omega) (by omega)
              have p3 := r_RatInt_e (atW a j c) (by omega)
              have p4 := r_MulRat_e (f j) (atW a j c : Rat) (by omega) (by have := hli _ lb; omega)
              have e4 : f j * (atW a j c : Rat) = G c j := by rw [hG]
              rw [e4] at p4
              have p5 := r_AddRat_e (smQ (G c) j) (G c j) (hsG c j (by omega)) (by have := hlG c j; omega)
              have e5 : smQ (G c) j + G c j = smQ (G c) (j + 1) := rfl
              rw [e5] at p5
              simp only [go_sem, hgl]
              refine regA_by 0 rfl ?_
              simp only [go_sem, hel, hI, hgl]
              (repeat (refine And.intro (by omega) ?_))
              ((repeat (refine regA_by 0 rfl ?_; simp only [go_sem, hel, hI, hgl])); refine call_pure (p2) rfl ?_; simp only [go_sem, hel, hI, hgl]; (repeat (refine regA_by 0 rfl ?_; simp only [go_sem, hel, hI, hgl])); refine call_pure (p3) rfl ?_; simp only [go_sem, hel, hI, hgl]; (repeat (refine regA_by 0 rfl ?_; simp only [go_sem, hel, hI, hgl])); refine call_pure (p4) rfl ?_; simp only [go_sem, hel, hI, hgl]; (repeat (refine regA_by 0 rfl ?_; simp only [go_sem, hel, hI, hgl])); refine call_pure (p5) rfl ?_; simp only [go_sem, hel, hI, hgl]; (repeat (refine regA_by 0 rfl ?_; simp only [go_sem, hel, hI, hgl])))
              refine ⟨j + 1, hlj', (by show i - (j + 1) < i - j; omega), ?_⟩
              (refine gstep_list rfl ?_ ?_ ?_ ?_ <;> (try simp only [go_sem, tail_one, wrap_i64 (n := (j : Int) + 1) (by omega) (by omega)]) <;> (try simp only [true_or, or_true, or_false, beq_self_eq_true, and_self, true_and, and_true]))
              all_goals rfl
            · obtain rfl : j = i := by omega
              obtain ⟨w, hw⟩ := hw c hlc'
              have hd : dig (smQ (G c) j).den = [1] := den_whole (w := w) (by rw [hG]; exact hw)
              have t8 := r_SameNat (dig (smQ (G c) j).den) [1] (by rw [hd]; decide) (by decide)
              have t8 := (tB_of t8 hd).tw (tvs' := [tN (dig (smQ (G c) j).den), .one (.seq (some false) [[.lit (.int .u32 1)]])]) (.cons TVW.refl1 (.cons (.one .weak) .nil))
              generalize smQ (G c) j = sG at *
              simp only [go_sem]
              ((repeat (refine regA_by 0 rfl ?_; simp only [go_sem])); refine call_pure (t8) rfl ?_; simp only [go_sem]; (repeat (refine regA_by 0 rfl ?_; simp only [go_sem])))
              refine ⟨c + 1, hlc', (by show n - (c + 1) < n - c; omega), ?_⟩
              (refine gstep_list rfl ?_ ?_ ?_ ?_ <;> (try simp only [go_sem, tail_one, wrap_i64 (n := (c : Int) + 1) (by omega) (by omega)]) <;> (try simp only [true_or, or_true, or_false, beq_self_eq_true, and_self, true_and, and_true]))
        · simp only [go_sem]
          ((repeat (refine regA_by 0 rfl ?_; simp only [go_sem])); refine call_pure (t9) rfl ?_; simp only [go_sem]; (repeat (refine regA_by 0 rfl ?_; simp only [go_sem])))
end Go.Proofs.YtjmbhknhiakkpaaGreat
