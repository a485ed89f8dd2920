/- At every input the call answers true and leaves its arguments as they were; no conditions. -/
import Derived.Test.YtpnmoecjhannnaaPc
import Derived.Test.YtpnmoecjhannnaaQa
import Derived.Test.YtpnmoecjhannnaaMf
set_option linter.unusedSimpArgs false
set_option linter.unusedVariables false
namespace Go.Proofs.Ytpnmoecjhannnaa
open Go Go.Abs
set_option maxHeartbeats 8000000
theorem l_Is_e (f : Fm) {N L : Nat} (hN : N ≤ 1000000) (hL : L ≤ 900000) (wf : WF f) (hf : Bd N L f) : PCall Try.prog 37 [eF f] (tB true) := by
  have hb := BL_enc hf
  have := l_Is (encL f) (by have := hb.1; omega) (fun m hm => by have := (hb.2.1 m hm).2; omega) (by have := hb.2.2; omega)
  rw [gL_encL] at this
  exact tB_of this (IsL_enc wf)
theorem l_Sub_e (f g : Fm) {N L : Nat} (hN : N ≤ 1000000) (hL : L ≤ 40000) (wf : WF f) (wg : WF g) (hf : Bd N L f) (hg : Bd N L g) : PCall Try.prog 46 [eF f, eF g] (eF (addF f (scF g (-1)))) :=
  l_of_raw2 (r := fun f g => eF (addF f (scF g (-1)))) wf wg hf hg fun l k hl hk => l_Sub l k hN hL hl hk
theorem l_Put_e (f : Fm) (v : Int) (g : Fm) (h1 : -9223372036854775808 ≤ v) (h2 : v < 9223372036854775808) {N L : Nat} (hN0 : 1 ≤ N) (hN : N ≤ 1000000) (hL : L ≤ 20000) (wf : WF f) (wg : WF g) (hf : Bd N L f) (hg : Bd N L g) : PCall Try.prog 53 [eF f, tI .i64 v, eF g] (eF (putF f v g)) := by
  have := l_Put (encL f) v (encL g) h1 h2 hN0 hN hL (BL_enc hf) (BL_enc hg)
  rwa [lv_enc wf, lv_enc wg, gL_encL, gL_encL] at this
theorem l_Gcd_e (f : Fm) {N L : Nat} (hN : N ≤ 1000000) (hL : L ≤ 90000) (wf : WF f) (hf : Bd N L f) : PCall Try.prog 57 [eF f] (eI (gM f.1 : Int)) :=
  l_of_raw (r := fun f => eI (gM f.1 : Int)) wf hf fun l hl => l_Gcd l hN hL hl
theorem l_At_e (f : Fm) (x : List (Bool × List Nat)) {N L K : Nat} (hN : N ≤ 1000000) (hL : L ≤ 900000) (hK : K ≤ 900000) (wf : WF f) (hf : Bd N L f) (hx : x.length < 1000000000) (hxk : ∀ q ∈ x, q.2.length ≤ K) : PCall Try.prog 55 [eF f, tLI x] (eI (atF f (ptX x))) := by
  have := l_At (encL f) x hN hL hK (BL_enc hf) hx hxk
  rwa [lv_enc wf, gL_encL] at this
theorem Bd_put {N L : Nat} {f g : Fm} {v : Int} (hv : v < 9223372036854775808) (hf : Bd N L f) (hg : Bd N L g) : Bd (N + 1 + N) (L + L + 4) (putF f v g) := by
  unfold putF
  have hc := lN_coI hf v
  split
  · exact hf.mono (by omega) (by omega)
  · have hvb : Bd 1 1 (varF v.toNat) := Bd_var (by omega)
    have b1 := Bd_sc hvb (-(coI f.1 v))
    rw [lN_neg] at b1
    exact (Bd_add (Bd_add hf b1) (Bd_sc hg (coI f.1 v))).mono (by omega) (by omega)
theorem WF_put {f g : Fm} {v : Int} (hf : WF f) (hg : WF g) : WF (putF f v g) := by
  unfold putF; split
  · exact hf
  · exact WF_add (WF_add hf (WF_sc (WF_var _) _)) (WF_sc hg _)
set_option maxRecDepth 100000 in
theorem known6 : PCall Try.prog 32 [] (tB true) := by
  refine pcall_of_wpA mixed Try.call32 Try.func32 rfl Try.ntmps32 Try.results32 (by simp) (by decide) ?_
  obtain ⟨c2, h2⟩ : ∃ c : Int, c = 2 := ⟨_, rfl⟩
  obtain ⟨c3, h3⟩ : ∃ c : Int, c = 3 := ⟨_, rfl⟩
  obtain ⟨c5, h5⟩ : ∃ c : Int, c = 5 := ⟨_, rfl⟩
  obtain ⟨c11, h11⟩ : ∃ c : Int, c = 11 := ⟨_, rfl⟩
  have o2 : PCall Try.prog 16 [tI .i64 2] (eI c2) := by rw [h2]; exact i_Of 2 (by decide) (by decide)
  have o3 : PCall Try.prog 16 [tI .i64 3] (eI c3) := by rw [h3]; exact i_Of 3 (by decide) (by decide)
  have o5 : PCall Try.prog 16 [tI .i64 5] (eI c5) := by rw [h5]; exact i_Of 5 (by decide) (by decide)
  have o11 : PCall Try.prog 16 [tI .i64 11] (eI c11) := by rw [h11]; exact i_Of 11 (by decide) (by decide)
  have l2 : lN c2 ≤ 1 := lN_small (by omega)
  have l3 : lN c3 ≤ 1 := lN_small (by omega)
  have l5 : lN c5 ≤ 1 := lN_small (by omega)
  have l11 : lN c11 ≤ 1 := lN_small (by omega)
  have b2 : Bd 1 1 (varF 2) := Bd_var (by decide)
  have b0 : Bd 1 1 (varF 0) := Bd_var (by decide)
  have v2 := l_Var 2 (by decide) (by decide)
  have v0 := l_Var 0 (by decide) (by decide)
  rw [show (2 : Int).toNat = 2 from rfl] at v2
  rw [show (0 : Int).toNat = 0 from rfl] at v0
  have s1 := l_Scale_e (varF 2) c3 (by decide) (by decide) (WF_var 2) b2 (by omega)
  have k1 := l_Const_e c5 (by omega)
  have bs := Bd_sc b2 c3
  have bk : Bd 1 1 (constF c5) := (Bd_const (N := 1) c5).mono (Nat.le_refl _) l5
  have ws : WF (scF (varF 2) c3) := WF_sc (WF_var 2) c3
  have a1 := l_Add_e (scF (varF 2) c3) (constF c5) (N := 1) (L := 2) (by decide) (by decide) ws (WF_const c5) (bs.mono (Nat.le_refl _) (by omega)) (bk.mono (Nat.le_refl _) (by omega))
  have eS : addF (scF (varF 2) c3) (constF c5) = ([(2, c3)], c5) := by
    rw [scF_ne (by omega)]
    show (mer (scM c3 [(2, 1)]) [], 0 * c3 + c5) = _
    rw [mer_nil_right, Int.zero_mul, Int.zero_add]
    show ([(2, 1 * c3)], c5) = _
    rw [Int.one_mul]
  rw [eS] at a1
  have wS : WF ([(2, c3)], c5) := ⟨Nat.zero_le _, (by show c3 ≠ 0; omega), trivial⟩
  have bS : Bd 1 1 ([(2, c3)], c5) := ⟨Nat.le_refl _, (fun m hm => by obtain rfl := List.mem_singleton.1 hm; exact ⟨(by show (2 : Nat) < _; decide), l3⟩), l5⟩
  have p1 := l_Put_e ([(2, c3)], c5) 2 (varF 0) (by decide) (by decide) (N := 1) (L := 1) (by decide) (by decide) (by decide) wS (WF_var 0) bS b0
  have eP : coI (putF ([(2, c3)], c5) 2 (varF 0)).1 0 = c3 := by
    have e := coI_nat (putF ([(2, c3)], c5) 2 (varF 0)).1 0
    unfold putF at e ⊢
    rw [show coI ([(2, c3)], c5).1 2 = c3 from if_pos rfl] at e ⊢
    rw [if_neg (by omega)] at e ⊢
    rw [show ((0 : Nat) : Int) = 0 from rfl] at e
    rw [e, co_add (WF_add wS (WF_sc (WF_var _) _)) (WF_sc (WF_var 0) _), co_add wS (WF_sc (WF_var _) _), co_sc, co_sc, co_var, co_var]
    show 0 + 0 * -c3 + 1 * c3 = c3
    omega
  have bP := Bd_put (v := 2) (by decide) bS b0
  have wP : WF (putF ([(2, c3)], c5) 2 (varF 0)) := WF_put wS (WF_var 0)
  have co := l_Coef_e (putF ([(2, c3)], c5) 2 (varF 0)) 0 (by decide) (by decide) wP bP
  rw [eP] at co
  have i1 := l_Is_e (varF 2) (by decide) (by decide) (WF_var 2) b2
  have q1 := tB_of (f6_Equal ([(2, c3)], c5) ([(2, c3)], c5) (by decide) (by decide) bS bS) rfl
  have q3 := tB_of (i_Equal_e c3 c3 (by omega) (by omega)) rfl
  have at1 := l_At_e ([(2, c3)], c5) [(false, []), (false, []), (decide (c2 < 0), dig c2.natAbs)] (K := 1) (by decide) (by decide) (by decide) wS bS (by simp) (fun q hq => by
    rcases List.mem_cons.1 hq with rfl | hq
    · exact Nat.zero_le _
    · rcases List.mem_cons.1 hq with rfl | hq
      · exact Nat.zero_le _
      · obtain rfl := List.mem_singleton.1 hq; exact l2)
  have eA : atF ([(2, c3)], c5) (ptX [(false, []), (false, []), (decide (c2 < 0), dig c2.natAbs)]) = c11 := by
    show c5 + (c3 * iv (decide (c2 < 0)) (dig c2.natAbs) + 0) = c11
    rw [iv_eI, h2, h3, h5, h11]; rfl
  rw [eA] at at1
  have at1 : PCall Try.prog 55 [eF ([(2, c3)], c5), .one (.seq (some false) [[.lit (.bool false), .seq (some true) []], [.lit (.bool false), .seq (some true) []], [.lit (.bool (decide (c2 < 0))), eN (dig c2.natAbs)]])] (eI c11) := by
    exact at1.tw (.cons .reflA (.cons (.one (TW.list (.inr rfl) (.cons (.cons .refl (.cons .weak .nil)) (.cons (.cons .refl (.cons .weak .nil)) (.cons .refl .nil))))) .nil))
  have q11 := tB_of (i_Equal_e c11 c11 (by omega) (by omega)) rfl
  have su := l_Sub_e ([(2, c3)], c5) ([(2, c3)], c5) (by decide) (by decide) wS wS bS bS
  have eD : addF ([(2, c3)], c5) (scF ([(2, c3)], c5) (-1)) = ([], 0) := by
    rw [scF_ne (by decide)]
    show (mer [(2, c3)] [(2, c3 * -1)], c5 + c5 * -1) = _
    rw [mer_cons, if_neg (by show ¬ (2 : Nat) < 2; decide), if_neg (by show ¬ (2 : Nat) < 2; decide), if_pos (by show c3 + c3 * -1 = 0; omega), mer_nil_left, show c5 + c5 * -1 = 0 by omega]
  rw [eD] at su
  have sa := tB_of (l_Same_e ([], 0) ([], 0) (N := 0) (L := 0) (by decide) (by decide) trivial trivial Bd_zero Bd_zero) rfl
  have sa : PCall Try.prog 39 [eF ([], 0), .agg [.seq (some true) [], .lit (.bool false), .seq (some true) []]] (tB true) := by
    rw [eF_zero] at sa ⊢
    exact sa.tw (.cons .reflA (.cons (.agg (.cons .weak (.cons .refl (.cons .weak .nil)))) .nil))
  have gc := l_Gcd_e ([(2, c3)], c5) (by decide) (by decide) wS bS
  have eG : (gM ([(2, c3)], c5).1 : Int) = c3 := by
    show (gM ([] ++ [(2, c3)]) : Int) = c3
    rw [gM_snoc, show gM [] = 0 from rfl, h3]; rfl
  rw [eG] at gc
  have q1 : PCall Try.prog 35 [eF ([(2, c3)], c5), .agg [.seq (some false) [[.lit (.int .i64 2), .lit (.bool (decide (c3 < 0))), eN (dig c3.natAbs)]], .lit (.bool (decide (c5 < 0))), eN (dig c5.natAbs)]] (tB true) :=
    q1.tw (.cons .reflA (.cons (.agg (.cons .weak (.cons .refl (.cons .refl .nil)))) .nil))
  generalize putF ([(2, c3)], c5) 2 (varF 0) = PP at *
  generalize scF (varF 2) c3 = SS at *
  obtain ⟨S, hS⟩ : ∃ S : Fm, S = ([(2, c3)], c5) := ⟨_, rfl⟩
  rw [← hS] at a1 p1 q1 at1 su gc
  generalize varF 2 = V2 at *
  generalize varF 0 = V0 at *
  generalize constF c5 = K5 at *
  clear h2 h3 h5 h11 eA eP eG eD hS
  simp only [go_sem]
  ((repeat (refine regA_by 0 rfl ?_; simp only [go_sem])); refine call_pure (v2) rfl ?_; simp only [go_sem]; (repeat (refine regA_by 0 rfl ?_; simp only [go_sem])); refine call_pure (o3) rfl ?_; simp only [go_sem]; (repeat (refine regA_by 0 rfl ?_; simp only [go_sem])); refine call_pure (s1) rfl ?_; simp only [go_sem]; (repeat (refine regA_by 0 rfl ?_; simp only [go_sem])); refine call_pure (o5) rfl ?_; simp only [go_sem]; (repeat (refine regA_by 0 rfl ?_; simp only [go_sem])); refine call_pure (k1) rfl ?_; simp only [go_sem]; (repeat (refine regA_by 0 rfl ?_; simp only [go_sem])); refine call_pure (a1) rfl ?_; simp only [go_sem]; (repeat (refine regA_by 0 rfl ?_; simp only [go_sem])); refine call_pure (v0) rfl ?_; simp only [go_sem]; (repeat (refine regA_by 0 rfl ?_; simp only [go_sem])); refine call_pure (p1) rfl ?_; simp only [go_sem]; (repeat (refine regA_by 0 rfl ?_; simp only [go_sem])); refine call_pure (i1) rfl ?_; simp only [go_sem]; (repeat (refine regA_by 0 rfl ?_; simp only [go_sem])); refine call_pure (o3) rfl ?_; simp only [go_sem]; (repeat (refine regA_by 0 rfl ?_; simp only [go_sem])); refine call_pure (o5) rfl ?_; simp only [go_sem]; (repeat (refine regA_by 0 rfl ?_; simp only [go_sem])); refine call_pure (q1) rfl ?_; simp only [go_sem]; (repeat (refine regA_by 0 rfl ?_; simp only [go_sem])); refine call_pure (co) rfl ?_; simp only [go_sem]; (repeat (refine regA_by 0 rfl ?_; simp only [go_sem])); refine call_pure (o3) rfl ?_; simp only [go_sem]; (repeat (refine regA_by 0 rfl ?_; simp only [go_sem])); refine call_pure (q3) rfl ?_; simp only [go_sem]; (repeat (refine regA_by 0 rfl ?_; simp only [go_sem])); refine call_pure (o2) rfl ?_; simp only [go_sem]; (repeat (refine regA_by 0 rfl ?_; simp only [go_sem])); refine call_pure (at1) rfl ?_; simp only [go_sem]; (repeat (refine regA_by 0 rfl ?_; simp only [go_sem])); refine call_pure (o11) rfl ?_; simp only [go_sem]; (repeat (refine regA_by 0 rfl ?_; simp only [go_sem])); refine call_pure (q11) rfl ?_; simp only [go_sem]; (repeat (refine regA_by 0 rfl ?_; simp only [go_sem])); refine call_pure (su) rfl ?_; simp only [go_sem]; (repeat (refine regA_by 0 rfl ?_; simp only [go_sem])); refine call_pure (sa) rfl ?_; simp only [go_sem]; (repeat (refine regA_by 0 rfl ?_; simp only [go_sem])); refine call_pure (gc) rfl ?_; simp only [go_sem]; (repeat (refine regA_by 0 rfl ?_; simp only [go_sem])); refine call_pure (o3) rfl ?_; simp only [go_sem]; (repeat (refine regA_by 0 rfl ?_; simp only [go_sem])); refine call_pure (q3) rfl ?_; simp only [go_sem]; (repeat (refine regA_by 0 rfl ?_; simp only [go_sem])))
end Go.Proofs.Ytpnmoecjhannnaa
