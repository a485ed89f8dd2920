/- At every input the call answers true and leaves its arguments as they were; no conditions. -/
import Derived.Test.YtfgejnedaijjiaaGreatPc
import Derived.Test.YtfgejnedaijjiaaGreatPd
set_option linter.unusedSimpArgs false
set_option linter.unusedVariables false
namespace Go.Proofs.YtfgejnedaijjiaaGreat
open Go Go.Abs
set_option maxHeartbeats 8000000
/-! ### Constraints -/
def nrM (g : Int) (l : List Mn) : List Mn := l.map fun m => (m.1, Int.fdiv m.2 g)
/-- A constraint in least numbers. -/
def normF (f : Fm) : Fm := if f.1 = [] then f else (nrM (gM f.1 : Int) f.1, -(Int.fdiv (-f.2) (gM f.1 : Int)))
def clF (f : Fm) : Int := if f.1 = [] then (if 0 < f.2 then 3 else 2) else 1
def notF (f : Fm) : Fm := addF (constF 1) (scF f (-1))
theorem nrM_len {g : Int} {l : List Mn} : (nrM g l).length = l.length := by unfold nrM; rw [List.length_map]
theorem nrM_take {g : Int} {l : List Mn} {i : Nat} (h : i < l.length) : (nrM g l).take (i + 1) = (nrM g l).take i ++ [(l[i].1, Int.fdiv l[i].2 g)] := by
  have h' : i < (nrM g l).length := by rwa [nrM_len]
  rw [take_snoc h']; congr 2; simp only [nrM, List.getElem_map]
set_option maxRecDepth 100000 in
theorem b_number (f : Fm) : PCall Tryz.prog 138 [eF f] (tB (decide (f.1 = []))) := by
  refine pcall_of_wpA mixed Tryz.call138 Tryz.func138 rfl Tryz.ntmps138 Tryz.results138 (by simp) (by decide) ?_
  have e : decide (f.1 = []) = decide ((f.1.length : Int) = 0) := by rw [decide_eq_decide]; cases f.1 <;> simp <;> omega
  rw [e]
  simp only [go_sem]
set_option maxRecDepth 100000 in
theorem b_class (f : Fm) (h : lN f.2 < 1000000) : PCall Tryz.prog 139 [eF f] (tI .i64 (clF f)) := by
  refine pcall_of_wpA mixed Tryz.call139 Tryz.func139 rfl Tryz.ntmps139 Tryz.results139 (by simp) (by decide) ?_
  have h1 := b_number f
  have h2 := w_Sign_e f.2 (by omega)
  by_cases c : f.1 = []
  · have h1 := tB_of h1 c
    unfold clF
    rw [if_pos c]
    by_cases k : 0 < f.2
    · rw [if_pos k]
      have e : (0 < f.2.sign) = True := eq_true (by rw [Int.sign_eq_one_of_pos k]; decide)
      simp only [go_sem]
      ((repeat (refine regA_by 0 rfl ?_; simp only [go_sem, e])); refine call_pure (h1) rfl ?_; simp only [go_sem, e]; (repeat (refine regA_by 0 rfl ?_; simp only [go_sem, e])); refine call_pure (h2) rfl ?_; simp only [go_sem, e]; (repeat (refine regA_by 0 rfl ?_; simp only [go_sem, e])))
    · rw [if_neg k]
      have e : (0 < f.2.sign) = False := eq_false (fun h => k (Int.sign_pos_iff.1 h))
      simp only [go_sem]
      ((repeat (refine regA_by 0 rfl ?_; simp only [go_sem, e])); refine call_pure (h1) rfl ?_; simp only [go_sem, e]; (repeat (refine regA_by 0 rfl ?_; simp only [go_sem, e])); refine call_pure (h2) rfl ?_; simp only [go_sem, e]; (repeat (refine regA_by 0 rfl ?_; simp only [go_sem, e])))
  · have h1 := tB_not h1 c
    unfold clF
    rw [if_neg c]
    simp only [go_sem]
    ((repeat (refine regA_by 0 rfl ?_; simp only [go_sem])); refine call_pure (h1) rfl ?_; simp only [go_sem]; (repeat (refine regA_by 0 rfl ?_; simp only [go_sem])))
set_option maxRecDepth 100000 in
theorem b_Norm (l : LL) {N L : Nat} (hN : N ≤ 1000000) (hL : L ≤ 9000) (hl : BL N L l) : PCall Tryz.prog 100 [gL l] (.tup [eF (normF (lv l)), tI .i64 (clF (lv l))]) := by
  refine pcall_of_wpA mixed Tryz.call100 Tryz.func100 rfl Tryz.ntmps100 Tryz.results100 (by simp) (by decide) ?_
  have hbd := Bd_lv hl
  have hw := WF_lv l
  have h0 : PCall Tryz.prog 114 [gL l, .agg [.seq (some true) [], .lit (.bool false), .seq (some true) []]] (eF (lv l)) := by
    have := l_Add l (encL ([], 0)) hN (by omega) hl (BL_enc Bd_zero)
    rw [lv_enc (f := ([], 0)) trivial, add_zero_right, gL_encL, eF_zero] at this
    exact this.tw (.cons .reflA (.cons (.agg (.cons .weak (.cons .refl (.cons .weak .nil)))) .nil))
  generalize lv l = f at *
  have h1 := b_number f
  have h2 := b_class f (by have := hbd.2.2; omega)
  by_cases c : f.1 = []
  · have h1 := tB_of h1 c
    rw [show normF f = f from if_pos c]
    simp only [go_sem]
    ((repeat (refine regA_by 0 rfl ?_; simp only [go_sem])); refine call_pure (h0) rfl ?_; simp only [go_sem]; (repeat (refine regA_by 0 rfl ?_; simp only [go_sem])); refine call_pure (h1) rfl ?_; simp only [go_sem]; (repeat (refine regA_by 0 rfl ?_; simp only [go_sem])); refine call_pure (h2) rfl ?_; simp only [go_sem]; (repeat (refine regA_by 0 rfl ?_; simp only [go_sem])))
    exact fz_tup2 (fz_agg3 .t .t .t) (.one .t)
  · have h1 := tB_not h1 c
    have h3 := l_Gcd_e f hN (by omega) hw hbd
    rw [show normF f = (nrM (gM f.1 : Int) f.1, -(Int.fdiv (-f.2) (gM f.1 : Int))) from if_neg c]
    have hlg := gM_len hbd f.1.length
    rw [List.take_length] at hlg
    have hk := hbd.2.2
    have hneg := lN_neg f.2
    have h4 := w_Neg_e f.2 (by omega)
    have fl : ∀ x : Int, lN x ≤ L → PCall Tryz.prog 141 [eI x, eI (gM f.1 : Int)] (.tup [eI (Int.fdiv x (gM f.1 : Int)), eI (Int.fmod x (gM f.1 : Int))]) := fun x hx => w_Floor_e x (gM f.1 : Int) (by omega) (by rw [lN_nat']; omega)
    have h5 := fl (-f.2) (by omega)
    have lf := lN_fdiv (-f.2) (gM f.1 : Int)
    have h6 := w_Neg_e (Int.fdiv (-f.2) (gM f.1 : Int)) (by omega)
    generalize (gM f.1 : Int) = g at *
    generalize -(Int.fdiv (-f.2) g) = K at *
    have hlen := hbd.1
    simp only [go_sem]
    ((repeat (refine regA_by 0 rfl ?_; simp only [go_sem])); refine call_pure (h0) rfl ?_; simp only [go_sem]; (repeat (refine regA_by 0 rfl ?_; simp only [go_sem])); refine call_pure (h1) rfl ?_; simp only [go_sem]; (repeat (refine regA_by 0 rfl ?_; simp only [go_sem])); refine call_pure (h3) rfl ?_; simp only [go_sem]; (repeat (refine regA_by 0 rfl ?_; simp only [go_sem])); refine call_pure (h4) rfl ?_; simp only [go_sem]; (repeat (refine regA_by 0 rfl ?_; simp only [go_sem])); refine call_pure (h5) rfl ?_; simp only [go_sem]; (repeat (refine regA_by 0 rfl ?_; simp only [go_sem])); refine call_pure (h6) rfl ?_; simp only [go_sem]; (repeat (refine regA_by 0 rfl ?_; simp only [go_sem])))
    refine loop_inv (fun i : Nat => stL 72 [(2, .one (.ptr 2 0)), (4, .one (.ptr 4 0)), (5, .one (.ptr 5 0)), (8, .one (.ptr 8 0)), (46, .one (.t (eL cMn f.1))), (47, litI .i64 f.1.length), (48, litI .i64 i)]
        (accE 1000 cMn ((nrM g f.1).take i) ++ [(2, [.t (.seq (some true) []), .t (.lit (.bool false)), .t (.seq (some true) [])]), (4, (cF f).map .t), (5, [.t (.lit (.bool (decide (g < 0)))), .t (eN (dig g.natAbs))]), (8, [accC 1000 3 ((nrM g f.1).take i), .t (.lit (.bool (decide (K < 0)))), .t (eN (dig K.natAbs))])]))
      (fun i => i ≤ f.1.length) (fun i => f.1.length - i) 0 ?_ (Nat.zero_le _) ?_
    · rw [List.take_zero]
      (refine gstep_list rfl ?_ ?_ ?_ ?_ <;> (try simp only [go_sem, tail_one]) <;> (try simp))
    · intro i hi
      simp only [go_sem]
      refine CondR_if (fun hlt => ?_) (fun hge => ?_)
      · have hlt' : i < f.1.length := by omega
        have hel : elemD cMn f.1 i = cMn f.1[i] := elemD_lt hlt'
        have hm := fl _ (hbd.2.1 _ (List.getElem_mem hlt')).2
        have hv := (hbd.2.1 _ (List.getElem_mem hlt')).1
        have hnx := nrM_take (g := g) hlt'
        have hal : ((nrM g f.1).take i).length = i := by rw [List.length_take, nrM_len]; omega
        generalize f.1[i] = m at *
        generalize (nrM g f.1).take i = acc at *
        simp only [go_sem, hel, hlt]
        (repeat (refine And.intro (by omega) ?_))
        ((repeat (refine regA_by 0 rfl ?_; simp only [go_sem])); refine call_pure (hm) rfl ?_; simp only [go_sem]; (repeat (refine regA_by 0 rfl ?_; simp only [go_sem])))
        refine opA_app_acc (sz := 3) (bytes := 40) (by simp only [go_sem, AppTy] <;> decide) cMn_len acc [(m.1, Int.fdiv m.2 g)] (b := 1000) (by simp only [go_sem] <;> rfl) (by simp only [go_sem] <;> rfl) (by simp only [go_sem] <;> rfl) rfl (by simp) (by simp only [List.length_cons, List.length_nil] at *; omega) (by decide) ?_
        simp only [go_sem]
        refine ⟨i + 1, hlt', (by show f.1.length - (i + 1) < f.1.length - i; omega), ?_⟩
        (refine gstep_list rfl ?_ ?_ ?_ ?_ <;> (try simp only [go_sem, tail_one, hnx, wrap_i64 (n := (i : Int) + 1) (by omega) (by omega)]) <;> (try simp))
      · obtain rfl : i = f.1.length := by omega
        rw [show f.1.length = (nrM g f.1).length from nrM_len.symm, List.take_length]
        simp only [go_sem]
        ((repeat (refine regA_by 0 rfl ?_; simp only [go_sem])); refine call_pure (h2) rfl ?_; simp only [go_sem]; (repeat (refine regA_by 0 rfl ?_; simp only [go_sem])))
        refine fz_tup2 (fz_agg3 (fz_acc cMn_len ?_) .t .t) (.one .t)
        cases h : nrM g f.1 with
        | nil => exact .inl rfl
        | cons z zs => right; rfl
end Go.Proofs.YtfgejnedaijjiaaGreat
namespace Go.Proofs.YtfgejnedaijjiaaGreat
open Go Go.Abs
set_option maxHeartbeats 8000000
set_option maxRecDepth 100000 in
theorem b_Not (l : LL) {N L : Nat} (hN : N ≤ 1000000) (hL : L ≤ 30000) (hL1 : 1 ≤ L) (hl : BL N L l) : PCall Tryz.prog 93 [gL l] (eF (notF (lv l))) := by
  refine pcall_of_wpA mixed Tryz.call93 Tryz.func93 rfl Tryz.ntmps93 Tryz.results93 (by simp) (by decide) ?_
  have o := w_Of_e 1 (by decide) (by decide)
  have l1 : lN 1 ≤ 1 := lN_one
  have k := l_Const_e 1 (by omega)
  have s := l_Sub (encL (constF 1)) l (N := N) (L := L) hN (by omega) (BL_enc ((Bd_const (N := N) 1).mono (Nat.le_refl _) (by omega))) hl
  rw [lv_enc (WF_const 1), gL_encL] at s
  obtain ⟨u, hu⟩ : ∃ u : Int, u = 1 := ⟨_, rfl⟩
  have o : PCall Tryz.prog 91 [tI .i64 1] (eI u) := by rw [hu]; exact o
  unfold notF
  generalize addF (constF 1) (scF (lv l) (-1)) = R at *
  generalize constF 1 = K at *
  rw [← hu] at k
  clear hu l1
  simp only [go_sem]
  ((repeat (refine regA_by 0 rfl ?_; simp only [go_sem])); refine call_pure (o) rfl ?_; simp only [go_sem]; (repeat (refine regA_by 0 rfl ?_; simp only [go_sem])); refine call_pure (k) rfl ?_; simp only [go_sem]; (repeat (refine regA_by 0 rfl ?_; simp only [go_sem])); refine call_pure (s) rfl ?_; simp only [go_sem]; (repeat (refine regA_by 0 rfl ?_; simp only [go_sem])))
  exact fz_agg3 .t .t .t
theorem b_Not_e (f : Fm) {N L : Nat} (hN : N ≤ 1000000) (hL : L ≤ 30000) (hL1 : 1 ≤ L) (wf : WF f) (hf : Bd N L f) : PCall Tryz.prog 93 [eF f] (eF (notF f)) :=
  l_of_raw (r := fun f => eF (notF f)) wf hf fun l hl => b_Not l hN hL hL1 hl
theorem b_Norm_e (f : Fm) {N L : Nat} (hN : N ≤ 1000000) (hL : L ≤ 9000) (wf : WF f) (hf : Bd N L f) : PCall Tryz.prog 100 [eF f] (.tup [eF (normF f), tI .i64 (clF f)]) :=
  l_of_raw (r := fun f => .tup [eF (normF f), tI .i64 (clF f)]) wf hf fun l hl => b_Norm l hN hL hl
/-! ### The reference's constraints -/
set_option maxRecDepth 100000 in
theorem f6_Holds (l : LL) (x : List (Bool × List Nat)) {N L K : Nat} (hN : N ≤ 1000000) (hL : L ≤ 900000) (hK : K ≤ 900000) (hl : BL N L l) (hx : x.length < 1000000000) (hxk : ∀ q ∈ x, q.2.length ≤ K) : PCall Tryz.prog 46 [gL l, tLI x] (tB (decide (atF (lv l) (ptX x) ≤ 0))) := by
  refine pcall_of_wpA mixed Tryz.call46 Tryz.func46 rfl Tryz.ntmps46 Tryz.results46 (by simp) (by decide) ?_
  have a := f6_At l x hN hL hK hl hx hxk
  have la := lN_at (Bd_lv hl) (fun v => lN_ptX hxk v) (lv l).1.length
  rw [List.take_length] at la
  have ln := (Bd_lv hl).1
  have s := i_Sign_e (atF (lv l) (ptX x)) (by unfold atF; omega)
  have e : decide (atF (lv l) (ptX x) ≤ 0) = decide ((atF (lv l) (ptX x)).sign ≤ 0) := by rw [decide_eq_decide]; exact Int.sign_nonpos_iff.symm
  rw [e]
  simp only [go_sem]
  ((repeat (refine regA_by 0 rfl ?_; simp only [go_sem])); refine call_pure (a) rfl ?_; simp only [go_sem]; (repeat (refine regA_by 0 rfl ?_; simp only [go_sem])); refine call_pure (s) rfl ?_; simp only [go_sem]; (repeat (refine regA_by 0 rfl ?_; simp only [go_sem])))
set_option maxRecDepth 100000 in
theorem f6_All (ls : List LL) (x : List (Bool × List Nat)) {N L K : Nat} (hN : N ≤ 1000000) (hL : L ≤ 900000) (hK : K ≤ 900000) (hls : ls.length < 1000000000) (hl : ∀ l ∈ ls, BL N L l) (hx : x.length < 1000000000) (hxk : ∀ q ∈ x, q.2.length ≤ K) : PCall Tryz.prog 47 [.one (eL cL ls), tLI x] (tB (decide (∀ l ∈ ls, atF (lv l) (ptX x) ≤ 0))) := by
  refine pcall_of_wpA mixed Tryz.call47 Tryz.func47 rfl Tryz.ntmps47 Tryz.results47 (by simp) (by decide) ?_
  simp only [go_sem]
  refine loop_inv (fun i : Nat => stL 19 [(0, .one (.t (eL cL ls))), (1, aLI x), (5, litI .i64 i)] []) (fun i => i ≤ ls.length ∧ ∀ l ∈ ls.take i, atF (lv l) (ptX x) ≤ 0) (fun i => ls.length - i) 0 ?_ ⟨Nat.zero_le _, by rw [List.take_zero]; intro m hm; cases hm⟩ ?_
  · (refine gstep_list rfl ?_ ?_ ?_ ?_ <;> (try simp only [go_sem, tail_one]) <;> (try simp))
  · rintro i ⟨hi, hinv⟩
    simp only [go_sem]
    refine CondR_if (fun hlt => ?_) (fun hge => ?_)
    · have hlt' : i < ls.length := by omega
      have hel : elemD cL ls i = cL ls[i] := elemD_lt hlt'
      have h := f6_Holds ls[i] x hN hL hK (hl _ (List.getElem_mem hlt')) hx hxk
      have hbad : ¬ atF (lv ls[i]) (ptX x) ≤ 0 → decide (∀ l ∈ ls, atF (lv l) (ptX x) ≤ 0) = false := fun h => decide_eq_false fun hf => h (hf _ (List.getElem_mem hlt'))
      have hnx : atF (lv ls[i]) (ptX x) ≤ 0 → ∀ m ∈ ls.take (i + 1), atF (lv m) (ptX x) ≤ 0 := fun h m hm => by
        rw [take_snoc hlt'] at hm
        rcases List.mem_append.1 hm with hm | hm
        · exact hinv m hm
        · obtain rfl := List.mem_singleton.1 hm; exact h
      generalize ls[i] = l at *
      simp only [go_sem, hel, hlt]
      (repeat (refine And.intro (by omega) ?_))
      by_cases c : atF (lv l) (ptX x) ≤ 0
      · have h := tB_of h c
        ((repeat (refine regA_by 0 rfl ?_; simp only [go_sem])); refine call_pure (h) rfl ?_; simp only [go_sem]; (repeat (refine regA_by 0 rfl ?_; simp only [go_sem])))
        refine ⟨i + 1, ⟨hlt', hnx c⟩, (by show ls.length - (i + 1) < ls.length - i; omega), ?_⟩
        (refine gstep_list rfl ?_ ?_ ?_ ?_ <;> (try simp only [go_sem, tail_one, wrap_i64 (n := (i : Int) + 1) (by omega) (by omega)]) <;> (try simp))
      · have h := tB_not h c
        rw [hbad c]
        ((repeat (refine regA_by 0 rfl ?_; simp only [go_sem])); refine call_pure (h) rfl ?_; simp only [go_sem]; (repeat (refine regA_by 0 rfl ?_; simp only [go_sem])))
        try rfl
    · obtain rfl : i = ls.length := by omega
      rw [List.take_length] at hinv
      rw [decide_eq_true hinv]
      simp only [go_sem]
      try rfl
end Go.Proofs.YtfgejnedaijjiaaGreat
namespace Go.Proofs.YtfgejnedaijjiaaGreat
open Go Go.Abs
set_option maxHeartbeats 8000000
set_option maxRecDepth 100000 in
theorem f6_Norm (l : LL) {N L : Nat} (hN : N ≤ 1000000) (hL : L ≤ 9000) (hl : BL N L l) : PCall Tryz.prog 41 [gL l] (.tup [eF (normF (lv l)), tI .i64 (clF (lv l))]) := by
  refine pcall_of_wpA mixed Tryz.call41 Tryz.func41 rfl Tryz.ntmps41 Tryz.results41 (by simp) (by decide) ?_
  have hbd := Bd_lv hl
  have hw := WF_lv l
  have h0 := f6_May' hN (by omega) hl
  generalize lv l = f at *
  have h2 := i_Sign_e f.2 (by have := hbd.2.2; omega)
  by_cases c : f.1 = []
  · rw [show normF f = f from if_pos c]
    unfold clF
    rw [if_pos c]
    have c' : ((f.1.length : Int) = 0) = True := eq_true (by rw [c]; rfl)
    by_cases k : 0 < f.2
    · rw [if_pos k]
      have e : (0 < f.2.sign) = True := eq_true (by rw [Int.sign_eq_one_of_pos k]; decide)
      simp only [go_sem]
      ((repeat (refine regA_by 0 rfl ?_; simp only [go_sem, c', e])); refine call_pure (h0) rfl ?_; simp only [go_sem, c', e]; (repeat (refine regA_by 0 rfl ?_; simp only [go_sem, c', e])); refine call_pure (h2) rfl ?_; simp only [go_sem, c', e]; (repeat (refine regA_by 0 rfl ?_; simp only [go_sem, c', e])))
      exact fz_tup2 (fz_agg3 .t .t .t) (.one .t)
    · rw [if_neg k]
      have e : (0 < f.2.sign) = False := eq_false (fun h => k (Int.sign_pos_iff.1 h))
      simp only [go_sem]
      ((repeat (refine regA_by 0 rfl ?_; simp only [go_sem, c', e])); refine call_pure (h0) rfl ?_; simp only [go_sem, c', e]; (repeat (refine regA_by 0 rfl ?_; simp only [go_sem, c', e])); refine call_pure (h2) rfl ?_; simp only [go_sem, c', e]; (repeat (refine regA_by 0 rfl ?_; simp only [go_sem, c', e])))
      exact fz_tup2 (fz_agg3 .t .t .t) (.one .t)
  · have c' : ((f.1.length : Int) = 0) = False := eq_false (fun h => c (List.length_eq_zero_iff.1 (by omega)))
    have h3 := l_of_raw (r := fun f => eI (gM f.1 : Int)) hw hbd fun l hl => f6_Gcd l hN (by omega) hl
    rw [show normF f = (nrM (gM f.1 : Int) f.1, -(Int.fdiv (-f.2) (gM f.1 : Int))) from if_neg c]
    unfold clF
    rw [if_neg c]
    have hlg := gM_len hbd f.1.length
    rw [List.take_length] at hlg
    have hk := hbd.2.2
    have hneg := lN_neg f.2
    have h4 := i_Neg_e f.2 (by omega)
    have fl : ∀ x : Int, lN x ≤ L → PCall Tryz.prog 94 [eI x, eI (gM f.1 : Int)] (.tup [eI (Int.fdiv x (gM f.1 : Int)), eI (Int.fmod x (gM f.1 : Int))]) := fun x hx => i_Floor_e x (gM f.1 : Int) (by omega) (by rw [lN_nat']; omega)
    have h5 := fl (-f.2) (by omega)
    have lf := lN_fdiv (-f.2) (gM f.1 : Int)
    have h6 := i_Neg_e (Int.fdiv (-f.2) (gM f.1 : Int)) (by omega)
    generalize (gM f.1 : Int) = g at *
    generalize -(Int.fdiv (-f.2) g) = K at *
    have hlen := hbd.1
    simp only [go_sem]
    ((repeat (refine regA_by 0 rfl ?_; simp only [go_sem, c'])); refine call_pure (h0) rfl ?_; simp only [go_sem, c']; (repeat (refine regA_by 0 rfl ?_; simp only [go_sem, c'])); refine call_pure (h3) rfl ?_; simp only [go_sem, c']; (repeat (refine regA_by 0 rfl ?_; simp only [go_sem, c'])); refine call_pure (h4) rfl ?_; simp only [go_sem, c']; (repeat (refine regA_by 0 rfl ?_; simp only [go_sem, c'])); refine call_pure (h5) rfl ?_; simp only [go_sem, c']; (repeat (refine regA_by 0 rfl ?_; simp only [go_sem, c'])); refine call_pure (h6) rfl ?_; simp only [go_sem, c']; (repeat (refine regA_by 0 rfl ?_; simp only [go_sem, c'])))
    refine loop_inv (fun i : Nat => stL 69 [(2, .one (.ptr 2 0)), (4, .one (.ptr 4 0)), (5, .one (.ptr 5 0)), (8, .one (.ptr 8 0)), (9, litI .i64 i)]
        (accE 1000 cMn ((nrM g f.1).take i) ++ [(2, [.t (.seq (some true) []), .t (.lit (.bool false)), .t (.seq (some true) [])]), (4, (cF f).map .t), (5, [.t (.lit (.bool (decide (g < 0)))), .t (eN (dig g.natAbs))]), (8, [accC 1000 3 ((nrM g f.1).take i), .t (.lit (.bool (decide (K < 0)))), .t (eN (dig K.natAbs))])]))
      (fun i => i ≤ f.1.length) (fun i => f.1.length - i) 0 ?_ (Nat.zero_le _) ?_
    · rw [List.take_zero]
      (refine gstep_list rfl ?_ ?_ ?_ ?_ <;> (try simp only [go_sem, tail_one]) <;> (try simp))
    · intro i hi
      simp only [go_sem]
      refine CondR_if (fun hlt => ?_) (fun hge => ?_)
      · have hlt' : i < f.1.length := by omega
        have hel : elemD cMn f.1 i = cMn f.1[i] := elemD_lt hlt'
        have hm := fl _ (hbd.2.1 _ (List.getElem_mem hlt')).2
        have hv := (hbd.2.1 _ (List.getElem_mem hlt')).1
        have hnx := nrM_take (g := g) hlt'
        have hal : ((nrM g f.1).take i).length = i := by rw [List.length_take, nrM_len]; omega
        generalize f.1[i] = m at *
        generalize (nrM g f.1).take i = acc at *
        simp only [go_sem, hel, hlt]
        refine regA_by 0 rfl ?_
        simp only [go_sem, hel, hlt]
        (repeat (refine And.intro (by omega) ?_))
        refine call_pure hm rfl ?_
        simp only [go_sem]
        refine regA_by 0 rfl ?_
        simp only [go_sem, hel, hlt]
        (repeat (refine And.intro (by omega) ?_))
        refine opA_app_acc (sz := 3) (bytes := 40) (by simp only [go_sem, AppTy] <;> decide) cMn_len acc [(m.1, Int.fdiv m.2 g)] (b := 1000) (by simp only [go_sem] <;> rfl) (by simp only [go_sem] <;> rfl) (by simp only [go_sem] <;> rfl) rfl (by simp) (by simp only [List.length_cons, List.length_nil] at *; omega) (by decide) ?_
        simp only [go_sem]
        refine ⟨i + 1, hlt', (by show f.1.length - (i + 1) < f.1.length - i; omega), ?_⟩
        (refine gstep_list rfl ?_ ?_ ?_ ?_ <;> (try simp only [go_sem, tail_one, hnx, wrap_i64 (n := (i : Int) + 1) (by omega) (by omega)]) <;> (try simp))
      · obtain rfl : i = f.1.length := by omega
        rw [show f.1.length = (nrM g f.1).length from nrM_len.symm, List.take_length]
        simp only [go_sem]
        refine fz_tup2 (fz_agg3 (fz_acc cMn_len ?_) .t .t) (.one .t)
        cases h : nrM g f.1 with
        | nil => exact .inl rfl
        | cons z zs => right; rfl
end Go.Proofs.YtfgejnedaijjiaaGreat
namespace Go.Proofs.YtfgejnedaijjiaaGreat
open Go Go.Abs
set_option maxHeartbeats 8000000
/-! ### What constraints in least numbers are -/
theorem gM_dvd {l : List Mn} : ∀ m ∈ l, (gM l : Int) ∣ m.2 := by
  suffices ∀ i, i ≤ l.length → ∀ m ∈ l.take i, (gM (l.take i) : Int) ∣ m.2 by
    have h := this l.length (Nat.le_refl _); rwa [List.take_length] at h
  intro i
  induction i with
  | zero => intro _ m hm; rw [List.take_zero] at hm; cases hm
  | succ i ih =>
    intro hi m hm
    have hlt : i < l.length := hi
    rw [take_snoc hlt] at hm ⊢
    rw [gM_snoc]
    rcases List.mem_append.1 hm with hm | hm
    · exact Int.dvd_trans (Int.gcd_dvd_left ..) (ih (by omega) m hm)
    · obtain rfl := List.mem_singleton.1 hm
      exact Int.gcd_dvd_right ..
theorem dvd_gM {l : List Mn} {d : Int} (h : ∀ m ∈ l, d ∣ m.2) : d ∣ (gM l : Int) := by
  suffices ∀ i, i ≤ l.length → d ∣ (gM (l.take i) : Int) by
    have h := this l.length (Nat.le_refl _); rwa [List.take_length] at h
  intro i
  induction i with
  | zero => intro _; rw [List.take_zero, show gM [] = 0 from rfl]; exact Int.dvd_zero d
  | succ i ih =>
    intro hi
    have hlt : i < l.length := hi
    rw [take_snoc hlt, gM_snoc]
    exact Int.dvd_coe_gcd (ih (by omega)) (h _ (List.getElem_mem hlt))
theorem gM_ne {l : List Mn} {n : Nat} (hw : WM n l) (h : l ≠ []) : gM l ≠ 0 := by
  intro e
  cases l with
  | nil => exact h rfl
  | cons m l =>
    have := gM_dvd (l := m :: l) m (List.mem_cons_self ..)
    rw [e] at this
    exact hw.2.1 (Int.zero_dvd.1 this)
theorem gM_nr {l : List Mn} (hg : gM l ≠ 0) : gM (nrM (gM l : Int) l) = 1 := by
  have hgi : (gM l : Int) ≠ 0 := by omega
  have h : (gM l : Int) * (gM (nrM (gM l : Int) l) : Int) ∣ (gM l : Int) := by
    refine dvd_gM fun m hm => ?_
    have h1 : (gM (nrM (gM l : Int) l) : Int) ∣ Int.fdiv m.2 (gM l : Int) := gM_dvd (m.1, Int.fdiv m.2 (gM l : Int)) (List.mem_map.2 ⟨m, hm, rfl⟩)
    obtain ⟨q, hq⟩ := gM_dvd m hm
    rw [hq, Int.mul_fdiv_cancel_left _ hgi] at h1
    rw [hq]
    exact Int.mul_dvd_mul_left _ h1
  obtain ⟨q, hq⟩ := h
  rw [Int.mul_assoc] at hq
  have h2 : (gM l : Int) * 1 = (gM l : Int) * ((gM (nrM (gM l : Int) l) : Int) * q) := by rw [Int.mul_one]; exact hq
  have h3 : 1 = (gM (nrM (gM l : Int) l) : Int) * q := Int.eq_of_mul_eq_mul_left hgi h2
  have h4 : (gM (nrM (gM l : Int) l) : Int) ∣ 1 := ⟨q, h3⟩
  have := Int.eq_one_of_dvd_one (by omega) h4
  omega
theorem at_nr {g : Int} (hg : g ≠ 0) (p : Nat → Int) : ∀ {l : List Mn}, (∀ m ∈ l, g ∣ m.2) → atM l p = g * atM (nrM g l) p := by
  intro l
  induction l with
  | nil => intro _; show 0 = g * 0; rw [Int.mul_zero]
  | cons m l ih =>
    intro h
    obtain ⟨q, hq⟩ := h m (List.mem_cons_self ..)
    show m.2 * p m.1 + atM l p = g * (Int.fdiv m.2 g * p m.1 + atM (nrM g l) p)
    rw [ih fun m hm => h m (List.mem_cons_of_mem _ hm), hq, Int.mul_fdiv_cancel_left _ hg, Int.mul_add, Int.mul_assoc]
theorem WM_nr {g : Int} (hg : g ≠ 0) : ∀ {l : List Mn} {n : Nat}, (∀ m ∈ l, g ∣ m.2) → WM n l → WM n (nrM g l) := by
  intro l
  induction l with
  | nil => intros; trivial
  | cons m l ih =>
    intro n h w
    obtain ⟨q, hq⟩ := h m (List.mem_cons_self ..)
    refine ⟨w.1, ?_, ih (fun m hm => h m (List.mem_cons_of_mem _ hm)) w.2.2⟩
    show Int.fdiv m.2 g ≠ 0
    rw [hq, Int.mul_fdiv_cancel_left _ hg]
    intro e
    exact w.2.1 (by rw [hq, e, Int.mul_zero])
theorem nrM_one (l : List Mn) : nrM 1 l = l := by
  unfold nrM
  rw [show (fun m : Mn => (m.1, Int.fdiv m.2 1)) = id from funext fun m => by rw [Int.fdiv_one]; rfl, List.map_id]
theorem nrM_nil {g : Int} {l : List Mn} : nrM g l = [] ↔ l = [] := by unfold nrM; exact List.map_eq_nil_iff
theorem WF_norm {f : Fm} (hf : WF f) : WF (normF f) := by
  unfold normF; split
  · exact hf
  · rename_i h; have := gM_ne hf h; exact WM_nr (by omega) gM_dvd hf
theorem norm_norm {f : Fm} (hf : WF f) : normF (normF f) = normF f := by
  by_cases h : f.1 = []
  · rw [show normF f = f from if_pos h]; exact if_pos h
  · have hg := gM_ne hf h
    have e : normF f = (nrM (gM f.1 : Int) f.1, -(Int.fdiv (-f.2) (gM f.1 : Int))) := if_neg h
    rw [e]
    unfold normF
    rw [if_neg (fun h' => h (nrM_nil.1 h')), gM_nr hg]
    show (nrM 1 _, -(Int.fdiv (- -_) 1)) = _
    rw [nrM_one, Int.fdiv_one, Int.neg_neg]
theorem cl_norm (f : Fm) : clF (normF f) = clF f := by
  by_cases h : f.1 = []
  · rw [show normF f = f from if_pos h]
  · rw [show normF f = (nrM (gM f.1 : Int) f.1, -(Int.fdiv (-f.2) (gM f.1 : Int))) from if_neg h]
    unfold clF
    rw [if_neg (fun h' => h (nrM_nil.1 h')), if_neg h]
theorem norm_holds {f : Fm} (hf : WF f) (p : Nat → Int) : atF (normF f) p ≤ 0 ↔ atF f p ≤ 0 := by
  by_cases h : f.1 = []
  · rw [show normF f = f from if_pos h]
  · have hg := gM_ne hf h
    rw [show normF f = (nrM (gM f.1 : Int) f.1, -(Int.fdiv (-f.2) (gM f.1 : Int))) from if_neg h]
    unfold atF
    rw [at_nr (l := f.1) (g := (gM f.1 : Int)) (by omega) p gM_dvd]
    show -(Int.fdiv (-f.2) (gM f.1 : Int)) + atM (nrM (gM f.1 : Int) f.1) p ≤ 0 ↔ _
    generalize atM (nrM (gM f.1 : Int) f.1) p = S
    rw [Int.fdiv_eq_ediv_of_nonneg _ (by omega)]
    have := Int.le_ediv_iff_mul_le (a := S) (b := -f.2) (c := (gM f.1 : Int)) (by omega)
    rw [Int.mul_comm S] at this
    omega
theorem at_not (f : Fm) (p : Nat → Int) : atF (notF f) p = 1 - atF f p := by
  unfold notF; rw [at_add, at_const, at_sc]; omega
theorem WF_not {f : Fm} (hf : WF f) : WF (notF f) := WF_add (WF_const _) (WF_sc hf _)
theorem Bd_not {N L : Nat} {f : Fm} (hL : 1 ≤ L) (hf : Bd N L f) : Bd N (L + 2) (notF f) := by
  have ln1 : lN (-1) ≤ 1 := lN_of (by decide)
  have := Bd_add ((Bd_const (N := 0) 1).mono (Nat.le_refl _) (show lN 1 ≤ 1 from lN_one)) (Bd_sc hf (-1))
  exact this.mono (by omega) (by omega)
theorem Bd_norm {N L : Nat} {f : Fm} (hf : Bd N L f) : Bd N (L + 1) (normF f) := by
  unfold normF; split
  · exact hf.mono (Nat.le_refl _) (by omega)
  · refine ⟨by show (nrM _ _).length ≤ N; rw [nrM_len]; exact hf.1, fun m hm => ?_, ?_⟩
    · obtain ⟨x, hx, rfl⟩ := List.mem_map.1 hm
      have h := hf.2.1 x hx
      have := lN_fdiv x.2 (gM f.1 : Int)
      exact ⟨h.1, by show lN (Int.fdiv x.2 _) ≤ _; omega⟩
    · have := lN_fdiv (-f.2) (gM f.1 : Int)
      rw [lN_neg] at this
      have h := hf.2.2
      show lN (-(Int.fdiv (-f.2) _)) ≤ _
      rw [lN_neg]; omega
theorem cl3 (f : Fm) : clF f = 1 ∨ clF f = 2 ∧ (∀ p, atF f p ≤ 0) ∨ clF f = 3 ∧ ∀ p, ¬ atF f p ≤ 0 := by
  unfold clF
  split
  · rename_i h
    have e : ∀ p, atF f p = f.2 := fun p => by unfold atF; rw [h]; exact Int.add_zero _
    split
    · exact .inr (.inr ⟨rfl, fun p => by rw [e]; omega⟩)
    · exact .inr (.inl ⟨rfl, fun p => by rw [e]; omega⟩)
  · exact .inl rfl
theorem gM_single (v : Nat) (c : Int) : (gM [(v, c)] : Int) = c.natAbs := by
  show (gM ([] ++ [(v, c)]) : Int) = _
  rw [gM_snoc, show gM [] = 0 from rfl]
  show (Int.gcd 0 c : Int) = _
  rw [Int.gcd_zero_left]
theorem norm_single (v : Nat) (c k : Int) (hc : c ≠ 0) : normF ([(v, c)], k) = ([(v, c.sign)], -(Int.fdiv (-k) c.natAbs)) := by
  unfold normF
  rw [if_neg (by simp)]
  show (nrM (gM [(v, c)] : Int) [(v, c)], -(Int.fdiv (-k) (gM [(v, c)] : Int))) = _
  rw [gM_single]
  show ([(v, Int.fdiv c c.natAbs)], _) = _
  congr 3
  rw [Int.fdiv_eq_ediv_of_nonneg _ (by omega)]
  rcases Int.lt_trichotomy c 0 with h | h | h
  · rw [Int.sign_eq_neg_one_of_neg h, show (c.natAbs : Int) = -c by omega, Int.ediv_neg, Int.ediv_self hc]
  · exact absurd h hc
  · rw [Int.sign_eq_one_of_pos h, show (c.natAbs : Int) = c by omega, Int.ediv_self hc]
end Go.Proofs.YtfgejnedaijjiaaGreat
namespace Go.Proofs.YtfgejnedaijjiaaGreat
open Go Go.Abs
set_option maxHeartbeats 8000000
theorem tB_iffB {P : Program} {f : FuncId} {xs : List TV} {p q : Prop} [Decidable p] [Decidable q] (h : PCall P f xs (tB (decide p))) (e : p ↔ q) : PCall P f xs (tB (decide q)) := by rwa [← decide_eq_decide.2 e]
theorem Bd_single {v : Nat} {c k : Int} {L : Nat} (hv : v < 9223372036854775808) (hc : lN c ≤ L) (hk : lN k ≤ L) : Bd 1 L ([(v, c)], k) :=
  ⟨Nat.le_refl _, (fun m hm => by obtain rfl := List.mem_singleton.1 hm; exact ⟨hv, hc⟩), hk⟩
theorem WF_single {v : Nat} {c k : Int} (hc : c ≠ 0) : WF ([(v, c)], k) := ⟨Nat.zero_le _, hc, trivial⟩
theorem at_single (v : Nat) (c k : Int) (p : Nat → Int) : atF ([(v, c)], k) p = k + c * p v := by
  show k + (c * p v + 0) = _; omega
/-- A form of one variable, as it is built. -/
abbrev litF (v c k : Int) : TV := .agg [.seq (some false) [[.lit (.int .i64 v), .lit (.bool (decide (c < 0))), eN (dig c.natAbs)]], .lit (.bool (decide (k < 0))), eN (dig k.natAbs)]
theorem litF_tw (v : Nat) (c k : Int) : TVW (litF v c k) (eF ([(v, c)], k)) := .agg (.cons .weak (.cons .refl (.cons .refl .nil)))
theorem ptX_one (c : Int) : ptX [(decide (c < 0), dig c.natAbs)] 0 = c := by
  show iv (decide (c < 0)) (dig c.natAbs) = c; exact iv_eI c
end Go.Proofs.YtfgejnedaijjiaaGreat
