/- At every input the call answers true and leaves its arguments as they were; no conditions. -/
import Derived.Test.YtpnmoecjhannnaaPd
import Derived.Test.YtpnmoecjhannnaaQe
set_option linter.unusedSimpArgs false
set_option linter.unusedVariables false
namespace Go.Proofs.Ytpnmoecjhannnaa
open Go Go.Abs
set_option maxHeartbeats 16000000
theorem co_put {f g : Fm} (hf : WF f) (hg : WF g) (n : Nat) : coM (putF f n g).1 n = coM f.1 n * coM g.1 n := by
  unfold putF
  rw [coI_nat, Int.toNat_natCast]
  split
  · rename_i h; rw [h, Int.zero_mul]
  · rw [co_add (WF_add hf (WF_sc (WF_var _) _)) (WF_sc hg _), co_add hf (WF_sc (WF_var _) _), co_sc, co_sc, co_var, if_pos rfl, Int.one_mul, Int.mul_comm (coM g.1 n)]; omega
theorem put_self {f : Fm} (hf : WF f) (n : Nat) : putF f n (varF n) = f := by
  unfold putF
  rw [coI_nat, Int.toNat_natCast]
  split
  · rfl
  · refine WF_ext (WF_add (WF_add hf (WF_sc (WF_var _) _)) (WF_sc (WF_var _) _)) hf (fun u => ?_) ?_
    · rw [co_add (WF_add hf (WF_sc (WF_var _) _)) (WF_sc (WF_var _) _), co_add hf (WF_sc (WF_var _) _), co_sc, co_sc, Int.mul_neg]; omega
    · rw [k_add, k_add, k_sc, k_sc]
      show f.2 + 0 * _ + 0 * _ = f.2
      rw [Int.zero_mul, Int.zero_mul]; omega
theorem var_put {g : Fm} (hg : WF g) (n : Nat) : putF (varF n) n g = g := by
  unfold putF
  have hc : coI (varF n).1 n = 1 := by rw [coI_nat]; exact if_pos rfl
  rw [hc, if_neg (by decide), Int.toNat_natCast]
  refine WF_ext (WF_add (WF_add (WF_var _) (WF_sc (WF_var _) _)) (WF_sc hg _)) hg (fun u => ?_) ?_
  · rw [co_add (WF_add (WF_var _) (WF_sc (WF_var _) _)) (WF_sc hg _), co_add (WF_var _) (WF_sc (WF_var _) _), co_sc, co_sc, Int.mul_neg]; omega
  · rw [k_add, k_add, k_sc, k_sc]
    show 0 + 0 * _ + _ = _
    rw [Int.zero_mul]; omega
theorem tmod12 (v : Nat) : Int.tmod (v : Int) 12 = ((v % 12 : Nat) : Int) := rfl
set_option maxRecDepth 100000 in
theorem p_LinGone (a : LL) (ha : LLok a) (b : LL) (hb : LLok b) (v : Int) (hv0 : 0 ≤ v) (hv1 : v < 256) : PCall Try.prog 9 [gL a, gL b, tI .u8 v] (tB true) := by
  have hk := known6
  by_cases f1 : FL a
  · have q1 := tB_of (fewLin6 a ha) f1
    have A := f1.bl ha
    by_cases f2 : FL b
    · have q2 := tB_of (fewLin6 b hb) f2
      have B := f2.bl hb
      have i1 := l_Is a (by have := A.1; omega) (fun m hm => by have := (A.2.1 m hm).2; omega) (by have := A.2.2; omega)
      have i2 := l_Is b (by have := B.1; omega) (fun m hm => by have := (B.2.1 m hm).2; omega) (by have := B.2.2; omega)
      by_cases f3 : IsL a
      · have q3 := tB_of i1 f3
        by_cases f4 : IsL b
        · have q4 := tB_of i2 f4
          have bdA := Bd_lv A
          have bdB := Bd_lv B
          have wA := WF_lv a
          have wB := WF_lv b
          rw [eF_lv f3] at q1 q3 ⊢
          rw [eF_lv f4] at q2 q4 ⊢
          clear i1 i2 f1 f2 f3 f4 A B
          generalize lv a = f at *
          generalize lv b = g at *
          obtain ⟨w, rfl⟩ : ∃ w : Nat, v = w := ⟨v.toNat, by omega⟩
          have hn : w % 12 < 12 := Nat.mod_lt _ (by decide)
          have cv : IntKind.wrap .i64 ((w % 12 : Nat) : Int) = ((w % 12 : Nat) : Int) := wrap_i64 (by omega) (by omega)
          have t12 := tmod12 w
          generalize w % 12 = n at *
          have r1 := l_Put_e f n g (by omega) (by omega) (N := 8) (L := 4) (by decide) (by decide) (by decide) wA wB bdA bdB
          have r2 := l_Coef_e f n (N := 8) (L := 4) (by decide) (by decide) wA bdA
          have r3 := l_Coef_e g n (N := 8) (L := 4) (by decide) (by decide) wB bdB
          have r4 := l_Var n (by omega) (by omega)
          rw [Int.toNat_natCast] at r4
          have bv : Bd 8 4 (varF n) := (Bd_var (by omega)).mono (by decide) (by decide)
          have r5 := l_Put_e f n (varF n) (by omega) (by omega) (N := 8) (L := 4) (by decide) (by decide) (by decide) wA (WF_var n) bdA bv
          rw [put_self wA] at r5
          have bp := Bd_put (v := (n : Int)) (by omega) bdA bdB
          have wp := WF_put (v := (n : Int)) wA wB
          have r6 := l_Coef_e (putF f n g) n (by decide) (by decide) wp bp
          rw [coI_nat, co_put wA wB, ← coI_nat, ← coI_nat] at r6
          have l1 := lN_coI bdA (n : Int)
          have l2 := lN_coI bdB (n : Int)
          have r7 := i_Mul_e (coI f.1 n) (coI g.1 n) (by omega) (by omega)
          have l3 := lN_mul (coI f.1 n) (coI g.1 n)
          have r8 := tB_of (i_Equal_e (coI f.1 n * coI g.1 n) (coI f.1 n * coI g.1 n) (by omega) (by omega)) rfl
          have r9 := tB_of (l_Same_e f f (N := 8) (L := 4) (by decide) (by decide) wA wA bdA bdA) rfl
          have r10 := l_Put_e (varF n) n g (by omega) (by omega) (N := 8) (L := 4) (by decide) (by decide) (by decide) (WF_var n) wB bv bdB
          rw [var_put wB] at r10
          have r11 := tB_of (f6_Equal g g (N := 8) (L := 4) (by decide) (by decide) bdB bdB) rfl
          generalize coI f.1 n * coI g.1 n = z at *
          generalize coI f.1 n = z1 at *
          generalize coI g.1 n = z2 at *
          generalize putF f n g = F1 at *
          generalize varF n = V at *
          clear bp wp bv bdA bdB wA wB
          refine pcall_of_wpA mixed Try.call9 Try.func9 rfl Try.ntmps9 Try.results9 (by simp) (by decide) ?_
          simp only [go_sem]
          ((repeat (refine regA_by 0 rfl ?_; simp only [go_sem])); refine call_pure (hk) rfl ?_; simp only [go_sem]; (repeat (refine regA_by 0 rfl ?_; simp only [go_sem])); refine call_pure (q1) rfl ?_; simp only [go_sem]; (repeat (refine regA_by 0 rfl ?_; simp only [go_sem])); refine call_pure (q2) rfl ?_; simp only [go_sem]; (repeat (refine regA_by 0 rfl ?_; simp only [go_sem])); refine call_pure (q3) rfl ?_; simp only [go_sem]; (repeat (refine regA_by 0 rfl ?_; simp only [go_sem])); refine call_pure (q4) rfl ?_; simp only [go_sem]; (repeat (refine regA_by 0 rfl ?_; simp only [go_sem])))
          simp only [go_sem, t12, cv]
          ((repeat (refine regA_by 0 rfl ?_; simp only [go_sem, t12, cv])); refine call_pure (r1) rfl ?_; simp only [go_sem, t12, cv]; (repeat (refine regA_by 0 rfl ?_; simp only [go_sem, t12, cv])))
          ((repeat (refine regA_by 0 rfl ?_; simp only [go_sem])); refine call_pure (r2) rfl ?_; simp only [go_sem]; (repeat (refine regA_by 0 rfl ?_; simp only [go_sem])); refine call_pure (r3) rfl ?_; simp only [go_sem]; (repeat (refine regA_by 0 rfl ?_; simp only [go_sem])); refine call_pure (r4) rfl ?_; simp only [go_sem]; (repeat (refine regA_by 0 rfl ?_; simp only [go_sem])); refine call_pure (r5) rfl ?_; simp only [go_sem]; (repeat (refine regA_by 0 rfl ?_; simp only [go_sem])))
          ((repeat (refine regA_by 0 rfl ?_; simp only [go_sem])); refine call_pure (r6) rfl ?_; simp only [go_sem]; (repeat (refine regA_by 0 rfl ?_; simp only [go_sem])); refine call_pure (r7) rfl ?_; simp only [go_sem]; (repeat (refine regA_by 0 rfl ?_; simp only [go_sem])); refine call_pure (r8) rfl ?_; simp only [go_sem]; (repeat (refine regA_by 0 rfl ?_; simp only [go_sem])); refine call_pure (r9) rfl ?_; simp only [go_sem]; (repeat (refine regA_by 0 rfl ?_; simp only [go_sem])); refine call_pure (r4) rfl ?_; simp only [go_sem]; (repeat (refine regA_by 0 rfl ?_; simp only [go_sem])); refine call_pure (r10) rfl ?_; simp only [go_sem]; (repeat (refine regA_by 0 rfl ?_; simp only [go_sem])); refine call_pure (r11) rfl ?_; simp only [go_sem]; (repeat (refine regA_by 0 rfl ?_; simp only [go_sem])))
        · have q4 := tB_not i2 f4
          refine pcall_of_wpA mixed Try.call9 Try.func9 rfl Try.ntmps9 Try.results9 (by simp) (by decide) ?_
          simp only [go_sem]
          ((repeat (refine regA_by 0 rfl ?_; simp only [go_sem])); refine call_pure (hk) rfl ?_; simp only [go_sem]; (repeat (refine regA_by 0 rfl ?_; simp only [go_sem])); refine call_pure (q1) rfl ?_; simp only [go_sem]; (repeat (refine regA_by 0 rfl ?_; simp only [go_sem])); refine call_pure (q2) rfl ?_; simp only [go_sem]; (repeat (refine regA_by 0 rfl ?_; simp only [go_sem])); refine call_pure (q3) rfl ?_; simp only [go_sem]; (repeat (refine regA_by 0 rfl ?_; simp only [go_sem])); refine call_pure (q4) rfl ?_; simp only [go_sem]; (repeat (refine regA_by 0 rfl ?_; simp only [go_sem])))
      · have q3 := tB_not i1 f3
        refine pcall_of_wpA mixed Try.call9 Try.func9 rfl Try.ntmps9 Try.results9 (by simp) (by decide) ?_
        simp only [go_sem]
        ((repeat (refine regA_by 0 rfl ?_; simp only [go_sem])); refine call_pure (hk) rfl ?_; simp only [go_sem]; (repeat (refine regA_by 0 rfl ?_; simp only [go_sem])); refine call_pure (q1) rfl ?_; simp only [go_sem]; (repeat (refine regA_by 0 rfl ?_; simp only [go_sem])); refine call_pure (q2) rfl ?_; simp only [go_sem]; (repeat (refine regA_by 0 rfl ?_; simp only [go_sem])); refine call_pure (q3) rfl ?_; simp only [go_sem]; (repeat (refine regA_by 0 rfl ?_; simp only [go_sem])))
    · have q2 := tB_not (fewLin6 b hb) f2
      refine pcall_of_wpA mixed Try.call9 Try.func9 rfl Try.ntmps9 Try.results9 (by simp) (by decide) ?_
      simp only [go_sem]
      ((repeat (refine regA_by 0 rfl ?_; simp only [go_sem])); refine call_pure (hk) rfl ?_; simp only [go_sem]; (repeat (refine regA_by 0 rfl ?_; simp only [go_sem])); refine call_pure (q1) rfl ?_; simp only [go_sem]; (repeat (refine regA_by 0 rfl ?_; simp only [go_sem])); refine call_pure (q2) rfl ?_; simp only [go_sem]; (repeat (refine regA_by 0 rfl ?_; simp only [go_sem])))
  · have q1 := tB_not (fewLin6 a ha) f1
    refine pcall_of_wpA mixed Try.call9 Try.func9 rfl Try.ntmps9 Try.results9 (by simp) (by decide) ?_
    simp only [go_sem]
    ((repeat (refine regA_by 0 rfl ?_; simp only [go_sem])); refine call_pure (hk) rfl ?_; simp only [go_sem]; (repeat (refine regA_by 0 rfl ?_; simp only [go_sem])); refine call_pure (q1) rfl ?_; simp only [go_sem]; (repeat (refine regA_by 0 rfl ?_; simp only [go_sem])))
end Go.Proofs.Ytpnmoecjhannnaa
namespace Go.Proofs.Ytpnmoecjhannnaa
open Go Go.Abs Go.ChangeShapes Go.WideShapes Go.ChangeAt Go.RowKit
set_option maxRecDepth 100000
theorem linGone_lifted (os : Os) (started : os.Started) (H : Type) (enc : TypeId × Value → H) :
    ReturnsInHanded {} Try.checked os 9 .any (Rows.linGoneSpec.pre6 enc Try.prog Try.f9 Rows.linGoneRow.domain false) (Rows.linGoneSpec.post enc Try.prog Try.f9 false true false false) := by
  refine returnsInHanded_of_change (C := Try.checked) Try.ownK started (by kernel_rfl) Try.func9
    (ChangeSpec.witness6 (enc := enc) (C := Try.checked) false ⟨#[], #[.agg #[.slice none 0 0, .bool false, .slice none 0 0], .agg #[.slice none 0 0, .bool false, .slice none 0 0], .int .u8 0], []⟩ 8 (by kernel_rfl) (by kernel_rfl) (by kernel_rfl) (by kernel_rfl)) ?_
  intro W base args ds gs before hval hW _ _
  refine row_of_pcall (S := plainS) (tb := 4) plain_ok Try.laidOut (by intro t ht; revert t; decide +kernel) rfl Try.underlying4 rfl (fun ds h => ?_) (fun tvs h => ?_) hval hW
  · match ds, h with
    | [d0, d1, d2], _ => rfl
  · obtain ⟨x0, _, rfl, h0, h⟩ := wtvs_cons h
    obtain ⟨x1, _, rfl, h1, h⟩ := wtvs_cons h
    obtain ⟨x2, _, rfl, h2, h⟩ := wtvs_cons h
    obtain rfl := wtvs_nil h
    obtain ⟨l0, rfl, k0⟩ := wtv_Lin h0
    obtain ⟨l1, rfl, k1⟩ := wtv_Lin h1
    obtain ⟨n2, rfl, k2⟩ := wtv_int Try.underlying5 h2
    have k2 := wf_u8 k2
    exact p_LinGone l0 k0 l1 k1 n2 k2.1 k2.2

theorem linGone_holds : Rows.LinGoneSaid :=
  OpenClaim.holds_of_wide 9 Try.f9 rfl rfl rfl rfl rfl rfl rfl ⟨rfl, rfl, rfl, rfl, rfl⟩ rfl rfl rfl rfl rfl (by kernel_rfl) Try.func9 (by kernel_rfl)
    (of_decide_eq_true (by kernel_rfl)) (by unfold Func.isWrapper; first | (rw [if_pos (by decide +kernel)]; kernel_rfl) | (rw [if_neg (by decide +kernel)]; exact ⟨rfl, rfl⟩))
    (fun os started H enc _ => linGone_lifted os started H enc)
end Go.Proofs.Ytpnmoecjhannnaa
