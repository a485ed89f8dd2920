/- At every input the call answers true and leaves its arguments as they were; no conditions. -/
import Derived.Test.YtfgejnedaijjiaaGreatPb
import Derived.Test.YtfgejnedaijjiaaGreatPa
import Derived.Test.YtfgejnedaijjiaaGreatMd
set_option linter.unusedSimpArgs false
set_option linter.unusedVariables false
namespace Go.Proofs.YtfgejnedaijjiaaGreat
open Go Go.Abs
set_option maxHeartbeats 8000000
theorem BL.mono {N L M K : Nat} {a : LL} (h : BL N L a) (h1 : N ≤ M) (h2 : L ≤ K) : BL M K a := ⟨Nat.le_trans h.1 h1, fun m hm => ⟨(h.2.1 m hm).1, Nat.le_trans (h.2.1 m hm).2 h2⟩, Nat.le_trans h.2.2 h2⟩
/-- A form as it is kept, in the place of one in memory. -/
theorem f6_Add_re (a : LL) (g : Fm) {N L : Nat} (hN : N ≤ 1000000) (hL : L ≤ 90000) (wg : WF g) (ha : BL N L a) (hg : Bd N L g) : PCall Tryz.prog 26 [gL a, eF g] (eF (addF (lv a) g)) := by
  have := f6_Add a (encL g) hN hL ha (BL_enc hg)
  rwa [lv_enc wg, gL_encL] at this
set_option maxRecDepth 100000 in
theorem f6_Sub (a b : LL) {N L : Nat} (hN : N ≤ 1000000) (hL : L ≤ 80000) (ha : BL N L a) (hb : BL N L b) : PCall Tryz.prog 27 [gL a, gL b] (eF (addF (lv a) (scF (lv b) (-1)))) := by
  refine pcall_of_wpA mixed Tryz.call27 Tryz.func27 rfl Tryz.ntmps27 Tryz.results27 (by simp) (by decide) ?_
  have hl1 : lN (-1) ≤ 1 := lN_of (by decide)
  have ho := i_Of (-1) (by decide) (by decide)
  have hs := f6_Scale_r b (-1) hN (by omega) hb (by omega)
  have h := f6_Add_re a (scF (lv b) (-1)) (L := L + 1) hN (by omega) (WF_sc (WF_lv b) _) (ha.mono (Nat.le_refl _) (by omega)) ((Bd_sc (Bd_lv hb) (-1)).mono (Nat.le_refl _) (by omega))
  generalize scF (lv b) (-1) = g at *
  obtain ⟨u1, hu1⟩ : ∃ c : Int, c = -1 := ⟨_, rfl⟩
  have ho : PCall Tryz.prog 24 [tI .i64 (-1)] (eI u1) := by rw [hu1]; exact ho
  rw [← hu1] at hs
  clear hu1
  simp only [go_sem]
  ((repeat (refine regA_by 0 rfl ?_; simp only [go_sem])); refine call_pure (ho) rfl ?_; simp only [go_sem]; (repeat (refine regA_by 0 rfl ?_; simp only [go_sem])); refine call_pure (hs) rfl ?_; simp only [go_sem]; (repeat (refine regA_by 0 rfl ?_; simp only [go_sem])); refine call_pure (h) rfl ?_; simp only [go_sem]; (repeat (refine regA_by 0 rfl ?_; simp only [go_sem])))
  exact fz_agg3 .t .t .t
/-- A form without a variable. -/
def dropM (v : Int) (l : List Mn) : List Mn := l.filter fun m => decide ((m.1 : Int) ≠ v)
theorem dropM_snoc (v : Int) (l : List Mn) (m : Mn) : dropM v (l ++ [m]) = if (m.1 : Int) = v then dropM v l else dropM v l ++ [m] := by
  unfold dropM
  rw [List.filter_append, List.filter_cons, List.filter_nil]
  by_cases h : (m.1 : Int) = v
  · rw [if_neg (by simp [h]), if_pos h, List.append_nil]
  · rw [if_pos (by simp [h]), if_neg h]
theorem dropM_len (v : Int) (l : List Mn) : (dropM v l).length ≤ l.length := List.length_filter_le _ _
/-- The reference puts as the program does. -/
theorem put_ref {f g : Fm} (hf : WF f) (hg : WF g) (v : Int) : addF (dropM v f.1, f.2) (scF g (coI f.1 v)) = putF f v g := by
  unfold putF
  by_cases hv : v < 0
  · have e1 : dropM v f.1 = f.1 := List.filter_eq_self.2 fun m _ => by simp; omega
    rw [e1, coI_neg _ hv, if_pos rfl, scF_eq0]
    exact add_zero_right f
  · obtain ⟨n, rfl⟩ : ∃ n : Nat, v = n := ⟨v.toNat, by omega⟩
    have ed : dropM (n : Int) f.1 = f.1.filter fun m => decide (m.1 ≠ n) := by
      unfold dropM
      congr 1
      funext m
      rw [decide_eq_decide]
      omega
    have wd : WF (dropM (n : Int) f.1, f.2) := by
      show WM 0 (dropM _ _); rw [ed]; exact WM_filter hf
    rw [coI_nat, Int.toNat_natCast]
    by_cases hz : coM f.1 n = 0
    · rw [if_pos hz, hz, scF_eq0, add_zero_right]
      refine WF_ext wd hf (fun u => ?_) rfl
      show coM (dropM _ _) u = _
      rw [ed, coM_filter n hf u]
      split
      · rename_i e; rw [e, hz]
      · rfl
    · rw [if_neg hz]
      refine WF_ext (WF_add wd (WF_sc hg _)) (WF_add (WF_add hf (WF_sc (WF_var _) _)) (WF_sc hg _)) (fun u => ?_) ?_
      · rw [co_add wd (WF_sc hg _), co_add (WF_add hf (WF_sc (WF_var _) _)) (WF_sc hg _), co_add hf (WF_sc (WF_var _) _), co_sc (varF n), co_var]
        show coM (dropM _ _) u + _ = _
        rw [ed, coM_filter n hf u]
        by_cases e : u = n
        · subst e; rw [if_pos rfl, if_pos rfl]; omega
        · rw [if_neg e, if_neg (fun h => e h.symm)]; omega
      · rw [k_add, k_add, k_add, k_sc (varF n)]
        show f.2 + _ = f.2 + 0 * _ + _
        rw [Int.zero_mul, Int.add_zero]
end Go.Proofs.YtfgejnedaijjiaaGreat
namespace Go.Proofs.YtfgejnedaijjiaaGreat
open Go Go.Abs
set_option maxHeartbeats 8000000
set_option maxRecDepth 100000 in
theorem l_Same1 (u v : Mn) (hu : lN u.2 < 1000000) (hv : lN v.2 < 1000000) : PCall Tryz.prog 146 [.agg (cMn u), .agg (cMn v)] (tB (decide (u = v))) := by
  refine pcall_of_wpA mixed Tryz.call146 Tryz.func146 rfl Tryz.ntmps146 Tryz.results146 (by simp) (by decide) ?_
  have h := w_Same_e u.2 v.2 (by omega) (by omega)
  by_cases c : u.1 = v.1
  · have c' : ((u.1 : Int) = (v.1 : Int)) = True := eq_true (by omega)
    have e : decide (u = v) = decide (u.2 = v.2) := decide_eq_decide.2 ⟨fun e => by rw [e], fun e => Prod.ext c e⟩
    rw [e]
    simp only [go_sem, c']
    refine call_pure h rfl ?_
    simp only [go_sem]
  · have c' : ((u.1 : Int) = (v.1 : Int)) = False := eq_false (by omega)
    rw [decide_eq_false (show ¬ u = v from fun e => c (by rw [e]))]
    simp only [go_sem, c']
    try rfl
set_option maxRecDepth 100000 in
theorem l_EqualFunc (x y : List Mn) (hx : x.length < 1000000000) (hy : y.length < 1000000000) (bx : ∀ m ∈ x, lN m.2 < 1000000) (bY : ∀ m ∈ y, lN m.2 < 1000000) : ACall Tryz.prog 145 [.one (.t (eL cMn x)), .one (.t (eL cMn y)), .one (.fn 146 [])] (tB (decide (x = y))) := by
  refine acall_of_wpA mixed Tryz.call145 Tryz.func145 rfl Tryz.ntmps145 Tryz.results145 (by simp) (by decide) ?_
  by_cases hl : x.length = y.length
  · have hl' : ((x.length : Int) = (y.length : Int)) = True := eq_true (by omega)
    simp only [go_sem, hl']
    refine loop_inv (fun i : Nat => stL 32 [(0, .one (.t (eL cMn x))), (1, .one (.t (eL cMn y))), (2, .one (.fn 146 [])), (15, .one (.t (eL cMn x))), (16, litI .i64 x.length), (17, litI .i64 i)] [])
      (fun i => i ≤ x.length ∧ x.take i = y.take i) (fun i => x.length - i) 0 ?_ ⟨Nat.zero_le _, rfl⟩ ?_
    · (refine gstep_list rfl ?_ ?_ ?_ ?_ <;> (try simp only [go_sem, tail_one]) <;> (try simp))
    · rintro i ⟨hi, hinv⟩
      simp only [go_sem]
      refine CondR_if (fun hlt => ?_) (fun hge => ?_)
      · have hlt' : i < x.length := by omega
        have hlt2 : i < y.length := by omega
        have hel : elemD cMn x i = cMn x[i] := elemD_lt hlt'
        have hel2 : elemD cMn y i = cMn y[i] := elemD_lt hlt2
        have h := l_Same1 x[i] y[i] (bx _ (List.getElem_mem hlt')) (bY _ (List.getElem_mem hlt2))
        have hne : ¬ x[i] = y[i] → decide (x = y) = false := fun h => decide_eq_false fun e => h (by subst e; rfl)
        have hnx : x[i] = y[i] → x.take (i + 1) = y.take (i + 1) := fun h => by rw [take_snoc hlt', take_snoc hlt2, hinv, h]
        generalize x[i] = u at *
        generalize y[i] = v at *
        simp only [go_sem, hel, hel2, hlt]
        (repeat (refine And.intro (by omega) ?_))
        by_cases c : u = v
        · have h := tB_of h c
          refine call_pure h rfl ?_
          simp only [go_sem]
          refine ⟨i + 1, ⟨hlt', hnx c⟩, (by show x.length - (i + 1) < x.length - i; omega), ?_⟩
          (refine gstep_list rfl ?_ ?_ ?_ ?_ <;> (try simp only [go_sem, tail_one, wrap_i64 (n := (i : Int) + 1) (by omega) (by omega)]) <;> (try simp))
        · have h := tB_not h c
          rw [hne c]
          refine call_pure h rfl ?_
          simp only [go_sem]
          try rfl
      · obtain rfl : i = x.length := by omega
        rw [List.take_length, hl, List.take_length] at hinv
        rw [decide_eq_true hinv]
        simp only [go_sem]
        try rfl
  · have hl' : ((x.length : Int) = (y.length : Int)) = False := eq_false (by omega)
    rw [decide_eq_false (show ¬ x = y from fun e => hl (by rw [e]))]
    simp only [go_sem, hl']
    try rfl
set_option maxRecDepth 100000 in
theorem l_Same (a b : LL) {N L : Nat} (hN : N ≤ 1000000) (hL : L ≤ 900000) (ha : BL N L a) (hb : BL N L b) : PCall Tryz.prog 103 [gL a, gL b] (tB (decide (lv a = lv b))) := by
  refine pcall_of_wpA mixed Tryz.call103 Tryz.func103 rfl Tryz.ntmps103 Tryz.results103 (by simp) (by decide) ?_
  have h1 := l_held a (by have := ha.1; omega) (fun m hm => by have := (ha.2.1 m hm).2; omega) (by have := ha.2.2; omega)
  have h2 := l_held b (by have := hb.1; omega) (fun m hm => by have := (hb.2.1 m hm).2; omega) (by have := hb.2.2; omega)
  have b1 := Bd_lv ha
  have b2 := Bd_lv hb
  generalize lv a = f at *
  generalize lv b = g at *
  have hs := w_Same_e f.2 g.2 (by have := b1.2.2; omega) (by have := b2.2.2; omega)
  have he := l_EqualFunc f.1 g.1 (by have := b1.1; omega) (by have := b2.1; omega) (fun m hm => by have := (b1.2.1 m hm).2; omega) (fun m hm => by have := (b2.2.1 m hm).2; omega)
  simp only [go_sem]
  refine regA_by 0 rfl ?_
  simp only [go_sem]
  ((repeat (refine regA_by 0 rfl ?_; simp only [go_sem])); refine call_pure (h1) rfl ?_; simp only [go_sem]; (repeat (refine regA_by 0 rfl ?_; simp only [go_sem])); refine call_pure (h2) rfl ?_; simp only [go_sem]; (repeat (refine regA_by 0 rfl ?_; simp only [go_sem])); refine call_pure (hs) rfl ?_; simp only [go_sem]; (repeat (refine regA_by 0 rfl ?_; simp only [go_sem])))
  by_cases c : f.2 = g.2
  · have c' : (f.2 = g.2) = True := eq_true c
    have e : decide (f = g) = decide (f.1 = g.1) := decide_eq_decide.2 ⟨fun e => by rw [e], fun e => Prod.ext e c⟩
    rw [e]
    simp only [go_sem, c']
    refine call_a rfl he rfl ?_
    simp only [go_sem]
  · have c' : (f.2 = g.2) = False := eq_false c
    rw [decide_eq_false (show ¬ f = g from fun e => c (by rw [e]))]
    simp only [go_sem, c']
    try rfl
theorem l_Same_e (f g : Fm) {N L : Nat} (hN : N ≤ 1000000) (hL : L ≤ 900000) (wf : WF f) (wg : WF g) (hf : Bd N L f) (hg : Bd N L g) : PCall Tryz.prog 103 [eF f, eF g] (tB (decide (f = g))) :=
  l_of_raw2 (r := fun f g => tB (decide (f = g))) wf wg hf hg fun l k hl hk => l_Same l k hN hL hl hk
end Go.Proofs.YtfgejnedaijjiaaGreat
namespace Go.Proofs.YtfgejnedaijjiaaGreat
open Go Go.Abs
set_option maxHeartbeats 8000000
set_option maxRecDepth 100000 in
theorem f6_At (a : LL) (x : List (Bool × List Nat)) {N L K : Nat} (hN : N ≤ 1000000) (hL : L ≤ 900000) (hK : K ≤ 900000) (ha : BL N L a) (hx : x.length < 1000000000) (hxk : ∀ q ∈ x, q.2.length ≤ K) : PCall Tryz.prog 104 [gL a, tLI x] (eI (atF (lv a) (ptX x))) := by
  refine pcall_of_wpA mixed Tryz.call104 Tryz.func104 rfl Tryz.ntmps104 Tryz.results104 (by simp) (by decide) ?_
  have h1 := f6_May' hN hL ha
  have hbd := Bd_lv ha
  generalize lv a = f at *
  have hlen := hbd.1
  have hln := fun i => lN_at hbd (fun v => lN_ptX hxk v) i
  unfold atF
  simp only [go_sem]
  refine call_pure h1 rfl ?_
  simp only [go_sem]
  refine loop_inv (fun i : Nat => stL 47 [(1, aLI x), (4, .one (.ptr 4 0)), (5, .one (.ptr 5 0)), (6, .one (.ptr 6 0)), (7, litI .i64 i)]
      [(4, [.t (.lit (.bool false)), .t (.seq (some true) [])]), (5, (cF f).map .t), (6, [.t (.lit (.bool (decide (f.2 + atM (f.1.take i) (ptX x) < 0)))), .t (eN (dig (f.2 + atM (f.1.take i) (ptX x)).natAbs))])])
    (fun i => i ≤ f.1.length) (fun i => f.1.length - i) 0 ?_ (Nat.zero_le _) ?_
  · rw [List.take_zero, show f.2 + atM [] (ptX x) = f.2 from Int.add_zero _]
    (refine gstep_list rfl ?_ ?_ ?_ ?_ <;> (try simp only [go_sem, tail_one]) <;> (try simp))
  · intro i hi
    simp only [go_sem]
    refine CondR_if (fun hlt => ?_) (fun hge => ?_)
    · have hlt' : i < f.1.length := by omega
      have hel : elemD cMn f.1 i = cMn f.1[i] := elemD_lt hlt'
      have hm := hbd.2.1 _ (List.getElem_mem hlt')
      have hli := hln i
      have hnx : f.2 + atM (f.1.take (i + 1)) (ptX x) = f.2 + atM (f.1.take i) (ptX x) + f.1[i].2 * ptX x f.1[i].1 := by rw [take_snoc hlt', atM_snoc, Int.add_assoc]
      generalize f.1[i] = m at *
      generalize f.2 + atM (f.1.take i) (ptX x) = acc at *
      simp only [go_sem, hel, hlt]
      (repeat (refine And.intro (by omega) ?_))
      by_cases c : m.1 < x.length
      · have c' : ((m.1 : Int) < (x.length : Int)) = True := eq_true (by omega)
        have hex : elemD cI x m.1 = cI x[m.1] := elemD_lt c
        have hp : ptX x m.1 = iv x[m.1].1 x[m.1].2 := by unfold ptX; rw [List.getElem?_eq_getElem c]
        have hq := hxk _ (List.getElem_mem c)
        rw [hp] at hnx
        have e1 := i_Mul (decide (m.2 < 0)) (dig m.2.natAbs) x[m.1].1 x[m.1].2 (by have := hm.2; unfold lN at this; omega) (by omega)
        rw [iv_eI] at e1
        have l1 := lN_mul m.2 (iv x[m.1].1 x[m.1].2)
        have l2 := lN_iv x[m.1].1 x[m.1].2
        have e2 := i_Add_e acc (m.2 * iv x[m.1].1 x[m.1].2) (by omega) (by omega)
        generalize x[m.1] = q at *
        simp only [go_sem, c']
        refine regA_by 0 rfl ?_
        simp only [go_sem, hel, hlt, hex, c', cI]
        (repeat (refine And.intro (by omega) ?_))
        refine call_pure e1 rfl ?_
        simp only [go_sem]
        refine call_pure e2 rfl ?_
        simp only [go_sem]
        refine ⟨i + 1, hlt', (by show f.1.length - (i + 1) < f.1.length - i; omega), ?_⟩
        (refine gstep_list rfl ?_ ?_ ?_ ?_ <;> (try simp only [go_sem, tail_one, hnx, wrap_i64 (n := (i : Int) + 1) (by omega) (by omega)]) <;> (try simp))
      · have c' : ((m.1 : Int) < (x.length : Int)) = False := eq_false (by omega)
        have hp : ptX x m.1 = 0 := by unfold ptX; rw [List.getElem?_eq_none (by omega)]
        rw [hp, Int.mul_zero, Int.add_zero] at hnx
        simp only [go_sem, c']
        refine ⟨i + 1, hlt', (by show f.1.length - (i + 1) < f.1.length - i; omega), ?_⟩
        (refine gstep_list rfl ?_ ?_ ?_ ?_ <;> (try simp only [go_sem, tail_one, hnx, wrap_i64 (n := (i : Int) + 1) (by omega) (by omega)]) <;> (try simp))
    · obtain rfl : i = f.1.length := by omega
      rw [List.take_length]
      simp only [go_sem]
      exact fz_agg2 .t .t
set_option maxRecDepth 100000 in
theorem f6_Gcd (a : LL) {N L : Nat} (hN : N ≤ 1000000) (hL : L ≤ 90000) (ha : BL N L a) : PCall Tryz.prog 98 [gL a] (eI (gM (lv a).1 : Int)) := by
  refine pcall_of_wpA mixed Tryz.call98 Tryz.func98 rfl Tryz.ntmps98 Tryz.results98 (by simp) (by decide) ?_
  have h1 := f6_May' hN (by omega) ha
  have hbd := Bd_lv ha
  generalize lv a = f at *
  have hlen := hbd.1
  have hln := gM_len hbd
  simp only [go_sem]
  refine call_pure h1 rfl ?_
  simp only [go_sem]
  refine loop_inv (fun i : Nat => stL 25 [(2, .one (.ptr 2 0)), (3, .one (.ptr 3 0)), (4, .one (.ptr 4 0)), (5, litI .i64 i)]
      [(2, [.t (.lit (.bool false)), .t (.seq (some true) [])]), (3, (cF f).map .t), (4, [.t (.lit (.bool (decide ((gM (f.1.take i) : Int) < 0)))), .t (eN (dig (gM (f.1.take i) : Int).natAbs))])])
    (fun i => i ≤ f.1.length) (fun i => f.1.length - i) 0 ?_ (Nat.zero_le _) ?_
  · rw [List.take_zero, show gM [] = 0 from rfl]
    refine GStep.trans (gstep_weakH 4 (cs := [.t (.lit (.bool false)), .t (.seq (some true) [])]) (by simp only [go_sem]) (.cons .refl (.cons .seq .nil))) ?_
    (refine gstep_list rfl ?_ ?_ ?_ ?_ <;> (try simp only [go_sem, tail_one, dig_zero]) <;> (try simp))
    all_goals (rw [dig_zero]; rfl)
  · intro i hi
    simp only [go_sem]
    refine CondR_if (fun hlt => ?_) (fun hge => ?_)
    · have hlt' : i < f.1.length := by omega
      have hel : elemD cMn f.1 i = cMn f.1[i] := elemD_lt hlt'
      have hm := hbd.2.1 _ (List.getElem_mem hlt')
      have hli := hln i
      have hnx := gM_snoc (f.1.take i) f.1[i]
      rw [← take_snoc hlt'] at hnx
      have hg := i_Gcd_e (gM (f.1.take i)) f.1[i].2 (by rw [lN_nat']; omega) (by omega)
      rw [← hnx] at hg
      generalize f.1[i] = m at *
      simp only [go_sem, hel, hlt]
      refine regA_by 0 rfl ?_
      simp only [go_sem, hel, hlt]
      (repeat (refine And.intro (by omega) ?_))
      refine call_pure hg rfl ?_
      simp only [go_sem]
      refine ⟨i + 1, hlt', (by show f.1.length - (i + 1) < f.1.length - i; omega), ?_⟩
      (refine gstep_list rfl ?_ ?_ ?_ ?_ <;> (try simp only [go_sem, tail_one, wrap_i64 (n := (i : Int) + 1) (by omega) (by omega)]) <;> (try simp))
    · obtain rfl : i = f.1.length := by omega
      rw [List.take_length]
      simp only [go_sem]
      exact fz_agg2 .t .t
end Go.Proofs.YtfgejnedaijjiaaGreat
namespace Go.Proofs.YtfgejnedaijjiaaGreat
open Go Go.Abs
set_option maxHeartbeats 8000000
/-- Few parts, few limbs. -/
def FL (l : LL) : Prop := (∀ m ∈ l.1, m.2.2.length ≤ 4 ∧ m.1 ≤ 100) ∧ l.1.length ≤ 8 ∧ l.2.2.length ≤ 4
instance (l : LL) : Decidable (FL l) := by unfold FL; exact inferInstance
def FP (x : List (Bool × List Nat)) : Prop := (∀ m ∈ x, m.2.length ≤ 4) ∧ x.length ≤ 12
instance (x : List (Bool × List Nat)) : Decidable (FP x) := by unfold FP; exact inferInstance
theorem FL.bl {l : LL} (h : FL l) (ho : LLok l) : BL 8 4 l := ⟨h.2.1, fun m hm => ⟨ho.2 m hm, (h.1 m hm).1⟩, h.2.2⟩
end Go.Proofs.YtfgejnedaijjiaaGreat
