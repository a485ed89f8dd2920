/- At every input the call answers true and leaves its arguments as they were; no conditions. -/
import Derived.Test.YtpnmoecjhannnaaPd
import Derived.Test.YtpnmoecjhannnaaQe
set_option linter.unusedSimpArgs false
set_option linter.unusedVariables false
namespace Go.Proofs.Ytpnmoecjhannnaa
open Go Go.Abs
set_option maxHeartbeats 16000000
set_option maxRecDepth 100000 in
theorem p_LinTells (a : LL) (ha : LLok a) (b : LL) (hb : LLok b) (s : Bool) (c : List Nat) (v : Int) (h1 : -9223372036854775808 ≤ v) (h2 : v < 9223372036854775808) (x : List (Bool × List Nat)) (hx : x.length ≤ maxLen) : PCall Try.prog 6 [gL a, gL b, gI s c, tI .i64 v, tLI x] (tB true) := by
  have hk := known6
  by_cases f1 : FL a
  · have q1 := tB_of (fewLin6 a ha) f1
    by_cases f2 : FL b
    · have q2 := tB_of (fewLin6 b hb) f2
      by_cases f3 : c.length ≤ 4
      · have f3' : ((4 : Int) < (c.length : Int)) = False := eq_false (by omega)
        by_cases f4 : FP x
        · have q4 := tB_of (fewPoint6 x hx) f4
          have A := f1.bl ha
          have B := f2.bl hb
          have xl := f4.2
          have xk : ∀ q ∈ x, q.2.length ≤ 4 := f4.1
          have bdA := Bd_lv A
          have bdB := Bd_lv B
          have wA := WF_lv a
          have wB := WF_lv b
          have m1 := f6_May' (N := 8) (L := 4) (by decide) (by decide) A
          have m2 := f6_May' (N := 8) (L := 4) (by decide) (by decide) B
          have e1 := f6_Equal (lv a) (lv b) (N := 8) (L := 4) (by decide) (by decide) bdA bdB
          have r1 := l_Is a (by have := A.1; omega) (fun m hm => by have := (A.2.1 m hm).2; omega) (by have := A.2.2; omega)
          have r2 := f6_Is a (by have := A.1; omega) (fun m hm => by have := (A.2.1 m hm).2; omega) (by have := A.2.2; omega)
          have r3 := l_Same a b (N := 8) (L := 4) (by decide) (by decide) A B
          have r4 := l_Const s c (by omega)
          have r5 := f6_Const s c (by omega)
          have lc := lN_iv s c
          have e2 := tB_of (f6_Equal (constF (iv s c)) (constF (iv s c)) (N := 8) (L := 4) (by decide) (by decide) ((Bd_const (N := 8) _).mono (by decide) (by omega)) ((Bd_const (N := 8) _).mono (by decide) (by omega))) rfl
          have r6 := l_Var v h1 h2
          have r7 := f6_Var v h1 h2
          have bv : Bd 1 1 (varF v.toNat) := Bd_var (by omega)
          have e3 := tB_of (f6_Equal (varF v.toNat) (varF v.toNat) (N := 1) (L := 1) (by decide) (by decide) bv bv) rfl
          have r8 := l_Add a b (N := 8) (L := 4) (by decide) (by decide) A B
          have r9 := f6_Add a b (N := 8) (L := 4) (by decide) (by decide) A B
          have bs := Bd_add bdA bdB
          have e4 := tB_of (f6_Equal _ _ (by decide) (by decide) bs bs) rfl
          have r10 := l_Sub a b (N := 8) (L := 4) (by decide) (by decide) A B
          have r11 := f6_Sub a b (N := 8) (L := 4) (by decide) (by decide) A B
          have ln1 : lN (-1) ≤ 1 := lN_of (by decide)
          have bu := Bd_add bdA ((Bd_sc bdB (-1)).mono (Nat.le_refl _) (show 4 + lN (-1) ≤ 5 by omega))
          have e5 := tB_of (f6_Equal _ _ (by decide) (by decide) bu bu) rfl
          have r12 := l_Scale a s c (N := 8) (L := 4) (by decide) (by decide) A (by omega)
          have r13 := f6_Scale a s c (N := 8) (L := 4) (by decide) (by decide) A (by omega)
          have bc := (Bd_sc bdA (iv s c)).mono (Nat.le_refl _) (show 4 + lN (iv s c) ≤ 8 by omega)
          have e6 := tB_of (f6_Equal _ _ (by decide) (by decide) bc bc) rfl
          have r14 := l_Coef a v (N := 8) (L := 4) (by decide) (by decide) A
          have r15 := f6_Coef a v (N := 8) (L := 4) (by decide) (by decide) A
          have lco := lN_coI bdA v
          have e7 := tB_of (i_Equal_e (coI (lv a).1 v) (coI (lv a).1 v) (by omega) (by omega)) rfl
          have r16 := l_Put a v b h1 h2 (N := 8) (L := 4) (by decide) (by decide) (by decide) A B
          have r17 := f6_Put a v b (N := 8) (L := 4) (by decide) (by decide) A B
          have bp := Bd_put h2 bdA bdB
          have e8 := tB_of (f6_Equal _ _ (by decide) (by decide) bp bp) rfl
          have r18 := l_At a x (N := 8) (L := 4) (K := 4) (by decide) (by decide) (by decide) A (by omega) xk
          have r19 := f6_At a x (N := 8) (L := 4) (K := 4) (by decide) (by decide) (by decide) A (by omega) xk
          have la := lN_at bdA (fun v => lN_ptX xk v) (lv a).1.length
          rw [List.take_length] at la
          have lla := bdA.1
          have e9 := tB_of (i_Equal_e (atF (lv a) (ptX x)) (atF (lv a) (ptX x)) (by unfold atF; omega) (by unfold atF; omega)) rfl
          have r20 := l_Gcd a (N := 8) (L := 4) (by decide) (by decide) A
          have r21 := f6_Gcd a (N := 8) (L := 4) (by decide) (by decide) A
          have lg := gM_len bdA (lv a).1.length
          rw [List.take_length] at lg
          have e10 := tB_of (i_Equal_e (gM (lv a).1 : Int) (gM (lv a).1 : Int) (by rw [lN_nat']; omega) (by rw [lN_nat']; omega)) rfl
          generalize addF (lv a) (lv b) = F1 at *
          generalize addF (lv a) (scF (lv b) (-1)) = F2 at *
          generalize scF (lv a) (iv s c) = F3 at *
          generalize putF (lv a) v (lv b) = F4 at *
          generalize atF (lv a) (ptX x) = z1 at *
          generalize (gM (lv a).1 : Int) = z2 at *
          generalize coI (lv a).1 v = z3 at *
          generalize constF (iv s c) = F5 at *
          generalize varF v.toNat = F6 at *
          generalize lv a = f at *
          generalize lv b = g at *
          clear bs bu bc bp bv bdA bdB la lg lco A B wA wB
          refine pcall_of_wpA mixed Try.call6 Try.func6 rfl Try.ntmps6 Try.results6 (by simp) (by decide) ?_
          simp only [go_sem]
          ((repeat (refine regA_by 0 rfl ?_; simp only [go_sem, f3'])); refine call_pure (hk) rfl ?_; simp only [go_sem, f3']; (repeat (refine regA_by 0 rfl ?_; simp only [go_sem, f3'])); refine call_pure (q1) rfl ?_; simp only [go_sem, f3']; (repeat (refine regA_by 0 rfl ?_; simp only [go_sem, f3'])); refine call_pure (q2) rfl ?_; simp only [go_sem, f3']; (repeat (refine regA_by 0 rfl ?_; simp only [go_sem, f3'])); refine call_pure (q4) rfl ?_; simp only [go_sem, f3']; (repeat (refine regA_by 0 rfl ?_; simp only [go_sem, f3'])); refine call_pure (m1) rfl ?_; simp only [go_sem, f3']; (repeat (refine regA_by 0 rfl ?_; simp only [go_sem, f3'])); refine call_pure (m2) rfl ?_; simp only [go_sem, f3']; (repeat (refine regA_by 0 rfl ?_; simp only [go_sem, f3'])); refine call_pure (e1) rfl ?_; simp only [go_sem, f3']; (repeat (refine regA_by 0 rfl ?_; simp only [go_sem, f3'])))
          try simp only [List.append_eq, List.cons_append, List.nil_append]
          try (simp only [go_sem])
          ((repeat (refine regA_by 0 rfl ?_; simp only [go_sem, beq_self_eq_true])); refine call_pure (r1) rfl ?_; simp only [go_sem, beq_self_eq_true]; (repeat (refine regA_by 0 rfl ?_; simp only [go_sem, beq_self_eq_true])); refine call_pure (r2) rfl ?_; simp only [go_sem, beq_self_eq_true]; (repeat (refine regA_by 0 rfl ?_; simp only [go_sem, beq_self_eq_true])); refine call_pure (r3) rfl ?_; simp only [go_sem, beq_self_eq_true]; (repeat (refine regA_by 0 rfl ?_; simp only [go_sem, beq_self_eq_true])); refine call_pure (r4) rfl ?_; simp only [go_sem, beq_self_eq_true]; (repeat (refine regA_by 0 rfl ?_; simp only [go_sem, beq_self_eq_true])); refine call_pure (r5) rfl ?_; simp only [go_sem, beq_self_eq_true]; (repeat (refine regA_by 0 rfl ?_; simp only [go_sem, beq_self_eq_true])); refine call_pure (e2) rfl ?_; simp only [go_sem, beq_self_eq_true]; (repeat (refine regA_by 0 rfl ?_; simp only [go_sem, beq_self_eq_true])); refine call_pure (r6) rfl ?_; simp only [go_sem, beq_self_eq_true]; (repeat (refine regA_by 0 rfl ?_; simp only [go_sem, beq_self_eq_true])); refine call_pure (r7) rfl ?_; simp only [go_sem, beq_self_eq_true]; (repeat (refine regA_by 0 rfl ?_; simp only [go_sem, beq_self_eq_true])); refine call_pure (e3) rfl ?_; simp only [go_sem, beq_self_eq_true]; (repeat (refine regA_by 0 rfl ?_; simp only [go_sem, beq_self_eq_true])); refine call_pure (r8) rfl ?_; simp only [go_sem, beq_self_eq_true]; (repeat (refine regA_by 0 rfl ?_; simp only [go_sem, beq_self_eq_true])); refine call_pure (r9) rfl ?_; simp only [go_sem, beq_self_eq_true]; (repeat (refine regA_by 0 rfl ?_; simp only [go_sem, beq_self_eq_true])); refine call_pure (e4) rfl ?_; simp only [go_sem, beq_self_eq_true]; (repeat (refine regA_by 0 rfl ?_; simp only [go_sem, beq_self_eq_true])); refine call_pure (r10) rfl ?_; simp only [go_sem, beq_self_eq_true]; (repeat (refine regA_by 0 rfl ?_; simp only [go_sem, beq_self_eq_true])); refine call_pure (r11) rfl ?_; simp only [go_sem, beq_self_eq_true]; (repeat (refine regA_by 0 rfl ?_; simp only [go_sem, beq_self_eq_true])); refine call_pure (e5) rfl ?_; simp only [go_sem, beq_self_eq_true]; (repeat (refine regA_by 0 rfl ?_; simp only [go_sem, beq_self_eq_true])))
          try simp only [List.append_eq, List.cons_append, List.nil_append]
          try (simp only [go_sem])
          ((repeat (refine regA_by 0 rfl ?_; simp only [go_sem, beq_self_eq_true])); refine call_pure (r12) rfl ?_; simp only [go_sem, beq_self_eq_true]; (repeat (refine regA_by 0 rfl ?_; simp only [go_sem, beq_self_eq_true])); refine call_pure (r13) rfl ?_; simp only [go_sem, beq_self_eq_true]; (repeat (refine regA_by 0 rfl ?_; simp only [go_sem, beq_self_eq_true])); refine call_pure (e6) rfl ?_; simp only [go_sem, beq_self_eq_true]; (repeat (refine regA_by 0 rfl ?_; simp only [go_sem, beq_self_eq_true])); refine call_pure (r14) rfl ?_; simp only [go_sem, beq_self_eq_true]; (repeat (refine regA_by 0 rfl ?_; simp only [go_sem, beq_self_eq_true])); refine call_pure (r15) rfl ?_; simp only [go_sem, beq_self_eq_true]; (repeat (refine regA_by 0 rfl ?_; simp only [go_sem, beq_self_eq_true])); refine call_pure (e7) rfl ?_; simp only [go_sem, beq_self_eq_true]; (repeat (refine regA_by 0 rfl ?_; simp only [go_sem, beq_self_eq_true])); refine call_pure (r16) rfl ?_; simp only [go_sem, beq_self_eq_true]; (repeat (refine regA_by 0 rfl ?_; simp only [go_sem, beq_self_eq_true])); refine call_pure (r17) rfl ?_; simp only [go_sem, beq_self_eq_true]; (repeat (refine regA_by 0 rfl ?_; simp only [go_sem, beq_self_eq_true])); refine call_pure (e8) rfl ?_; simp only [go_sem, beq_self_eq_true]; (repeat (refine regA_by 0 rfl ?_; simp only [go_sem, beq_self_eq_true])); refine call_pure (r18) rfl ?_; simp only [go_sem, beq_self_eq_true]; (repeat (refine regA_by 0 rfl ?_; simp only [go_sem, beq_self_eq_true])); refine call_pure (r19) rfl ?_; simp only [go_sem, beq_self_eq_true]; (repeat (refine regA_by 0 rfl ?_; simp only [go_sem, beq_self_eq_true])); refine call_pure (e9) rfl ?_; simp only [go_sem, beq_self_eq_true]; (repeat (refine regA_by 0 rfl ?_; simp only [go_sem, beq_self_eq_true])); refine call_pure (r20) rfl ?_; simp only [go_sem, beq_self_eq_true]; (repeat (refine regA_by 0 rfl ?_; simp only [go_sem, beq_self_eq_true])); refine call_pure (r21) rfl ?_; simp only [go_sem, beq_self_eq_true]; (repeat (refine regA_by 0 rfl ?_; simp only [go_sem, beq_self_eq_true])); refine call_pure (e10) rfl ?_; simp only [go_sem, beq_self_eq_true]; (repeat (refine regA_by 0 rfl ?_; simp only [go_sem, beq_self_eq_true])))
        · have q4 := tB_not (fewPoint6 x hx) f4
          refine pcall_of_wpA mixed Try.call6 Try.func6 rfl Try.ntmps6 Try.results6 (by simp) (by decide) ?_
          simp only [go_sem]
          ((repeat (refine regA_by 0 rfl ?_; simp only [go_sem, f3'])); refine call_pure (hk) rfl ?_; simp only [go_sem, f3']; (repeat (refine regA_by 0 rfl ?_; simp only [go_sem, f3'])); refine call_pure (q1) rfl ?_; simp only [go_sem, f3']; (repeat (refine regA_by 0 rfl ?_; simp only [go_sem, f3'])); refine call_pure (q2) rfl ?_; simp only [go_sem, f3']; (repeat (refine regA_by 0 rfl ?_; simp only [go_sem, f3'])); refine call_pure (q4) rfl ?_; simp only [go_sem, f3']; (repeat (refine regA_by 0 rfl ?_; simp only [go_sem, f3'])))
      · have f3' : ((4 : Int) < (c.length : Int)) = True := eq_true (by omega)
        refine pcall_of_wpA mixed Try.call6 Try.func6 rfl Try.ntmps6 Try.results6 (by simp) (by decide) ?_
        simp only [go_sem]
        ((repeat (refine regA_by 0 rfl ?_; simp only [go_sem, f3'])); refine call_pure (hk) rfl ?_; simp only [go_sem, f3']; (repeat (refine regA_by 0 rfl ?_; simp only [go_sem, f3'])); refine call_pure (q1) rfl ?_; simp only [go_sem, f3']; (repeat (refine regA_by 0 rfl ?_; simp only [go_sem, f3'])); refine call_pure (q2) rfl ?_; simp only [go_sem, f3']; (repeat (refine regA_by 0 rfl ?_; simp only [go_sem, f3'])))
    · have q2 := tB_not (fewLin6 b hb) f2
      refine pcall_of_wpA mixed Try.call6 Try.func6 rfl Try.ntmps6 Try.results6 (by simp) (by decide) ?_
      simp only [go_sem]
      (repeat (first | (refine regA_by 0 rfl ?_; simp only [go_sem]) | (refine call_pure (hk) rfl ?_; simp only [go_sem]) | (refine call_pure (q1) rfl ?_; simp only [go_sem]) | (refine call_pure (q2) rfl ?_; simp only [go_sem])))
  · have q1 := tB_not (fewLin6 a ha) f1
    refine pcall_of_wpA mixed Try.call6 Try.func6 rfl Try.ntmps6 Try.results6 (by simp) (by decide) ?_
    simp only [go_sem]
    (repeat (first | (refine regA_by 0 rfl ?_; simp only [go_sem]) | (refine call_pure (hk) rfl ?_; simp only [go_sem]) | (refine call_pure (q1) rfl ?_; simp only [go_sem])))
end Go.Proofs.Ytpnmoecjhannnaa
namespace Go.Proofs.Ytpnmoecjhannnaa
open Go Go.Abs Go.ChangeShapes Go.WideShapes Go.ChangeAt Go.RowKit
set_option maxRecDepth 100000
theorem linTells_lifted (os : Os) (started : os.Started) (H : Type) (enc : TypeId × Value → H) :
    ReturnsInHanded {} Try.checked os 6 .any (Rows.linTellsSpec.pre6 enc Try.prog Try.f6 Rows.linTellsRow.domain false) (Rows.linTellsSpec.post enc Try.prog Try.f6 false true false false) := by
  refine returnsInHanded_of_change (C := Try.checked) Try.ownK started (by kernel_rfl) Try.func6
    (ChangeSpec.witness6 (enc := enc) (C := Try.checked) false ⟨#[], #[.agg #[.slice none 0 0, .bool false, .slice none 0 0], .agg #[.slice none 0 0, .bool false, .slice none 0 0], .agg #[.bool false, .slice none 0 0], .int .i64 0, .slice none 0 0], []⟩ 8 (by kernel_rfl) (by kernel_rfl) (by kernel_rfl) (by kernel_rfl)) ?_
  intro W base args ds gs before hval hW _ _
  refine row_of_pcall (S := plainS) (tb := 4) plain_ok Try.laidOut (by intro t ht; revert t; decide +kernel) rfl Try.underlying4 rfl (fun ds h => ?_) (fun tvs h => ?_) hval hW
  · match ds, h with
    | [d0, d1, d2, d3, d4], _ => rfl
  · obtain ⟨x0, _, rfl, h0, h⟩ := wtvs_cons h
    obtain ⟨x1, _, rfl, h1, h⟩ := wtvs_cons h
    obtain ⟨x2, _, rfl, h2, h⟩ := wtvs_cons h
    obtain ⟨x3, _, rfl, h3, h⟩ := wtvs_cons h
    obtain ⟨x4, _, rfl, h4, h⟩ := wtvs_cons h
    obtain rfl := wtvs_nil h
    obtain ⟨l0, rfl, k0⟩ := wtv_Lin h0
    obtain ⟨l1, rfl, k1⟩ := wtv_Lin h1
    obtain ⟨s2, a2, rfl, _⟩ := wtv_Int h2
    obtain ⟨n3, rfl, k3⟩ := wtv_int Try.underlying3 h3
    have k3 := wf_i64 k3
    obtain ⟨l4, rfl, j4⟩ := wtv_Ints h4
    exact p_LinTells l0 k0 l1 k1 s2 a2 n3 k3.1 k3.2 l4 j4

theorem linTells_holds : Rows.LinTellsSaid :=
  OpenClaim.holds_of_wide 6 Try.f6 rfl rfl rfl rfl rfl rfl rfl ⟨rfl, rfl, rfl, rfl, rfl⟩ rfl rfl rfl rfl rfl (by kernel_rfl) Try.func6 (by kernel_rfl)
    (of_decide_eq_true (by kernel_rfl)) (by unfold Func.isWrapper; first | (rw [if_pos (by decide +kernel)]; kernel_rfl) | (rw [if_neg (by decide +kernel)]; exact ⟨rfl, rfl⟩))
    (fun os started H enc _ => linTells_lifted os started H enc)
end Go.Proofs.Ytpnmoecjhannnaa
