/- At every input the call answers true and leaves its arguments as they were; no conditions. -/
import Derived.Test.YtfgejnedaijjiaaGreatMh
import Derived.Test.YtfgejnedaijjiaaGreatDe
set_option linter.unusedSimpArgs false
set_option linter.unusedVariables false
namespace Go.Abs
open Go
theorem litB_any {w w' : World} {ok ok' : Nat → Prop} {ρ ρ' : Nat → Option Nat} {y : Bool} {u : Value} (h : RA w ok ρ (litB y) u) : RA w' ok' ρ' (litB y) u := by
  cases h with
  | one h3 => cases h3 with | t h4 => cases h4 with | lit h5 => exact .one (.t (.lit h5))
/-- A pure call that is handed an own slice, of whose answer only the last part, a truth, is kept: the slice stays own. -/
theorem call_keep3 {P : Program} {m : Nat} {f : FuncId} {ars : List AV} {tvs : List TV} {r1 r2 : TV} {y : Bool} {σ : St} {K : AV → St → Prop} (b sz len : Nat) {x : T} {cs : List C} (hm : m = 2) (hp : PCall P f tvs (.tup [r1, r2, .one (.lit (.bool y))])) (hb : σ.H b = some cs) (hx : TreeOf cs sz len x)
    (has : ars.map (fA b sz len x) = tvs.map emb) (hK : K (.tup [.junk, .junk, litB y]) σ) : CallA P m f ars σ K := by
  refine .inr (.inr (.inl ⟨hm, _, σ, rfl, ⟨hp.1, fun ρ ok a w vs h hv => ?_⟩, hK⟩))
  obtain ⟨ρ', ok', s1, g1, hA⟩ := frz_sound h hb hx
  have hv' : RArgs w ok' noρ (tvs.map emb) vs := by
    rw [← has]
    refine ⟨by rw [List.length_map]; exact hv.1, fun i hi hi' => ?_⟩
    have hi2 : i < ars.length := by simpa using hi
    have e : (ars.map (fA b sz len x))[i] = emb (tvs[i]'(by have := congrArg List.length has; simp at this; omega)) := by
      simp only [has, List.getElem_map]
    have h1 : RA w ok' ρ' ((ars.map (fA b sz len x))[i]'(by simpa using hi2)) vs[i] := by simp only [List.getElem_map]; exact hA (hv.2 i hi2 hi')
    rw [e]
    exact RA_tree h1 _ e
  refine (hp.2 ok' w vs (fun n hn => (s1.okR n hn).1) hv').mono ?_
  rintro e w' ⟨v, ok'', rfl, hr, hg, hlt⟩
  have hg' : Goes noρ ok w noρ ok w' := ⟨hg.size, hg.same, hg.shape, hg.img, fun _ h => h, fun _ h => .inl h, hg.pin, hg.env⟩
  obtain ⟨t1, t2⟩ := h.pure hg' (fun n hn => Nat.lt_of_lt_of_le (h.okR n hn).1 hg.size)
  refine ⟨v, ρ, ok, rfl, ?_, t1, t2⟩
  have hr' : RA w' ok'' noρ (.tup [emb r1, emb r2, litB y]) v := hr
  cases hr' with
  | tup h1 h2 =>
    refine .tup h1 fun j hj hj' => ?_
    match j, hj with
    | 0, _ => exact .junk
    | 1, _ => exact .junk
    | 2, _ => exact litB_any (h2 2 (by show 2 < 3; decide) hj')
end Go.Abs
namespace Go.Proofs.YtfgejnedaijjiaaGreat
open Go Go.Abs
set_option maxHeartbeats 16000000
theorem cF_lenD (f : Fm) : (cF f).length = 3 := rfl
def sbF (i j : Nat) : Fm := addF (varF i) (scF (varF j) (-1))
def chF (i j : Nat) : Fm := addF (sbF i j) (constF 1)
theorem sb_lt {i j : Nat} (h : i < j) : sbF i j = ([(i, 1), (j, -1)], 0) := by
  unfold sbF scF
  rw [if_neg (by decide)]
  show (mer [(i, (1 : Int))] [(j, (1 : Int) * -1)], (0 : Int) + 0 * -1) = _
  rw [mer_cons, if_pos h, mer_nil_left]; rfl
theorem sb_gt {i j : Nat} (h : j < i) : sbF i j = ([(j, -1), (i, 1)], 0) := by
  unfold sbF scF
  rw [if_neg (by decide)]
  show (mer [(i, (1 : Int))] [(j, (1 : Int) * -1)], (0 : Int) + 0 * -1) = _
  rw [mer_cons, if_neg (by show ¬ i < j; omega), if_pos h, mer_nil_right]; rfl
theorem ch_lt {i j : Nat} (h : i < j) : chF i j = ([(i, 1), (j, -1)], 1) := by
  unfold chF; rw [sb_lt h]
  show (mer [(i, (1 : Int)), (j, -1)] [], (0 : Int) + 1) = _
  rw [mer_nil_right]; rfl
theorem ch_gt {i j : Nat} (h : j < i) : chF i j = ([(j, -1), (i, 1)], 1) := by
  unfold chF; rw [sb_gt h]
  show (mer [(j, (-1 : Int)), (i, 1)] [], (0 : Int) + 1) = _
  rw [mer_nil_right]; rfl
/-- The ring of k forms. -/
def rgF (k i : Nat) : Fm := if i + 1 < k then chF i (i + 1) else chF (k - 1) 0
theorem rg_lt {k i : Nat} (h : i + 1 < k) : rgF k i = ([(i, 1), (i + 1, -1)], 1) := by unfold rgF; rw [if_pos h, ch_lt (Nat.lt_succ_self _)]
theorem rg_end {k : Nat} (hk : 2 ≤ k) : rgF k (k - 1) = ([(0, -1), (k - 1, 1)], 1) := by unfold rgF; rw [if_neg (by omega), ch_gt (by omega)]
theorem rg_co {k i : Nat} (hk : 2 ≤ k) (hi : i < k) (v : Nat) : coM (rgF k i).1 v = if i = v then 1 else if (i + 1 = v ∨ (i + 1 = k ∧ v = 0)) ∧ ¬ (i + 1 = k ∧ v = k) then -1 else 0 := by
  rcases Nat.lt_or_ge (i + 1) k with h | h
  · rw [rg_lt h]
    show (if i = v then (1 : Int) else if i + 1 = v then -1 else 0) = _
    split
    · rfl
    · split <;> split <;> omega
  · obtain rfl : i = k - 1 := by omega
    rw [rg_end hk]
    show (if 0 = v then (-1 : Int) else if k - 1 = v then 1 else 0) = _
    split <;> split <;> (try split) <;> omega
theorem rg_wf {k i : Nat} (hk : 2 ≤ k) (hi : i < k) : WF (rgF k i) := by
  rcases Nat.lt_or_ge (i + 1) k with h | h
  · rw [rg_lt h]; exact ⟨Nat.zero_le _, (by decide : (1 : Int) ≠ 0), Nat.le_refl _, (by decide : (-1 : Int) ≠ 0), trivial⟩
  · obtain rfl : i = k - 1 := by omega
    rw [rg_end hk]; exact ⟨Nat.zero_le _, (by decide : (-1 : Int) ≠ 0), (by show 0 + 1 ≤ k - 1; omega), (by decide : (1 : Int) ≠ 0), trivial⟩
theorem lN_1 : lN 1 ≤ 1 := lN_small (by decide)
theorem lN_m1 : lN (-1) ≤ 1 := lN_small (by decide)
theorem rg_bd {k i : Nat} (hk : 2 ≤ k) (hi : i < k) (hk7 : k ≤ 8) : Bd 2 1 (rgF k i) ∧ lastV (rgF k i) ≤ 101 := by
  rcases Nat.lt_or_ge (i + 1) k with h | h
  · rw [rg_lt h]
    exact ⟨⟨Nat.le_refl _, fun m hm => (by rcases List.mem_cons.1 hm with rfl | hm; exact ⟨by show i < _; omega, lN_1⟩; obtain rfl := List.mem_singleton.1 hm; exact ⟨by show i + 1 < _; omega, lN_m1⟩), lN_1⟩, by show i + 1 + 1 ≤ 101; omega⟩
  · obtain rfl : i = k - 1 := by omega
    rw [rg_end hk]
    exact ⟨⟨Nat.le_refl _, fun m hm => (by rcases List.mem_cons.1 hm with rfl | hm; exact ⟨by decide, lN_m1⟩; obtain rfl := List.mem_singleton.1 hm; exact ⟨by show k - 1 < _; omega, lN_1⟩), lN_1⟩, by show k - 1 + 1 ≤ 101; omega⟩
theorem rg_at {k i : Nat} (hk : 2 ≤ k) (hi : i < k) (p : Nat → Rat) : atQ (rgF k i) p = 1 + p i - p (if i + 1 < k then i + 1 else 0) := by
  have e1 : ((1 : Int) : Rat) = 1 := rfl
  have e2 : ((-1 : Int) : Rat) = -1 := rfl
  rcases Nat.lt_or_ge (i + 1) k with h | h
  · rw [rg_lt h, if_pos h]
    show ((1 : Int) : Rat) + (((1 : Int) : Rat) * p i + (((-1 : Int) : Rat) * p (i + 1) + 0)) = _
    rw [e1, e2]; grind
  · obtain rfl : i = k - 1 := by omega
    rw [rg_end hk, if_neg (by omega)]
    show ((1 : Int) : Rat) + (((-1 : Int) : Rat) * p 0 + (((1 : Int) : Rat) * p (k - 1) + 0)) = _
    rw [e1, e2]; grind
/-- No point keeps to the ring. -/
theorem rg_none {k : Nat} (hk : 2 ≤ k) {p : Nat → Rat} (h : ∀ i, i < k → atQ (rgF k i) p ≤ 0) : False := by
  have key : ∀ i, i < k → p 0 + (i : Rat) ≤ p i := by
    intro i
    induction i with
    | zero => intro _; show p 0 + ((0 : Nat) : Rat) ≤ p 0; have : ((0 : Nat) : Rat) = 0 := rfl; rw [this]; grind
    | succ i ih =>
      intro hi
      have h1 := ih (by omega)
      have h2 := h i (by omega)
      rw [rg_at hk (by omega), if_pos hi] at h2
      have : ((i + 1 : Nat) : Rat) = (i : Rat) + 1 := Rat.natCast_add _ _
      rw [this]; grind
  have h1 := key (k - 1) (by omega)
  have h2 := h (k - 1) (by omega)
  rw [rg_at hk (by omega), if_neg (by omega)] at h2
  have h3 : (0 : Rat) ≤ ((k - 1 : Nat) : Rat) := Rat.natCast_nonneg
  grind
/-- What tells against the ring takes all of it. -/
theorem rg_all {k : Nat} (hk : 2 ≤ k) {g : List Rat} (h : NoSum (fnG k (rgF k)) k g) : ∀ i, i < k → 0 < g.getD i 0 := by
  obtain ⟨_, h2, h3⟩ := h
  rw [fnG_len] at h2 h3
  have hget : ∀ i, i < k → (fnG k (rgF k)).getD i ([], 0) = rgF k i := fun i hi => by
    rw [List.getD_eq_getElem?_getD, List.getElem?_eq_getElem (by rw [fnG_len]; exact hi), fnG_get]; rfl
  have hst : ∀ v, v + 1 < k → g.getD (v + 1) 0 = g.getD v 0 := fun v hv => by
    have h4 := h2 (v + 1) hv
    rw [smQ_congr (g := fun i => g.getD i 0 * (coM (rgF k i).1 (v + 1) : Rat)) fun i hi => by rw [hget i hi],
      smQ_split (c := v + 1) hv, smQ_single (c := v) (by omega) fun j hj hjv => by
        by_cases e : j = v + 1
        · rw [if_pos e]
        · rw [if_neg e, rg_co hk hj, if_neg e, if_neg (by omega)]; exact Rat.mul_zero _] at h4
    rw [if_neg (by omega), rg_co hk (by omega), rg_co hk hv, if_neg (by omega), if_pos (by omega), if_pos rfl] at h4
    have e1 : ((1 : Int) : Rat) = 1 := rfl
    have e2 : ((-1 : Int) : Rat) = -1 := rfl
    rw [e1, e2] at h4
    grind
  have hall : ∀ i, i < k → g.getD i 0 = g.getD 0 0 := by
    intro i
    induction i with
    | zero => intro _; rfl
    | succ i ih => intro hi; rw [hst i hi, ih (by omega)]
  intro i hi
  rw [hall i hi]
  refine Rat.not_le.1 fun hle => ?_
  have : smQ (fun i => -(g.getD i 0 * (((fnG k (rgF k)).getD i ([], 0)).2 : Rat))) k ≥ 0 := smQ_nonneg fun i hi => by
    rw [hget i hi, hall i hi]
    have : (rgF k i).2 = 1 := by
      rcases Nat.lt_or_ge (i + 1) k with h | h
      · rw [rg_lt h]
      · obtain rfl : i = k - 1 := by omega
        rw [rg_end hk]
    rw [this]
    have e1 : ((1 : Int) : Rat) = 1 := rfl
    rw [e1]; grind
  have e : smQ (fun i => -(g.getD i 0 * (((fnG k (rgF k)).getD i ([], 0)).2 : Rat))) k = (-1) * smQ (fun i => g.getD i 0 * (((fnG k (rgF k)).getD i ([], 0)).2 : Rat)) k := by
    rw [← smQ_mul]; exact smQ_congr fun i _ => by grind
  rw [e] at this
  grind
theorem ch_calls (i j : Nat) (hi : i < 1000) (hj : j < 1000) : PCall Tryz.prog 27 [eF (varF i), eF (varF j)] (eF (sbF i j)) ∧ PCall Tryz.prog 26 [eF (sbF i j), eF (constF 1)] (eF (chF i j)) := by
  have bi : Bd 1 1 (varF i) := Bd_var (by omega)
  have bj : Bd 1 1 (varF j) := Bd_var (by omega)
  have h1 := f6_Sub (encL (varF i)) (encL (varF j)) (N := 1) (L := 1) (by decide) (by decide) (BL_enc bi) (BL_enc bj)
  rw [lv_enc (WF_var i), lv_enc (WF_var j), gL_encL, gL_encL] at h1
  refine ⟨h1, f6_Add_e (sbF i j) (constF 1) (N := 2) (L := 10) (by decide) (by decide) (WF_add (WF_var i) (WF_sc (WF_var j) _)) (WF_const 1) ?_ ⟨Nat.zero_le _, (fun m hm => by cases hm), by show lN 1 ≤ 10; have := lN_1; omega⟩⟩
  have := lN_m1
  exact (Bd_add bi (Bd_sc bj (-1))).mono (by decide) (by omega)
set_option maxRecDepth 100000 in
theorem p_SimplexChains (n : Int) (n1 : 0 ≤ n) (n2 : n < 256) : PCall Tryz.prog 6 [tI .u8 n] (tB true) := by
  have hk := known19
  refine pcall_of_wpA mixed Tryz.call6 Tryz.func6 rfl Tryz.ntmps6 Tryz.results6 (by simp) (by decide) ?_
  obtain ⟨k0, hk1, hk2⟩ : ∃ k : Nat, Int.tmod n 6 = (k : Int) ∧ k < 6 := ⟨(n % 6).toNat, by rw [Int.tmod_eq_emod_of_nonneg n1]; omega, by omega⟩
  obtain ⟨k, hkk⟩ : ∃ k : Nat, k = k0 + 2 := ⟨_, rfl⟩
  have w1 : IntKind.i64.wrap (k0 : Int) = (k0 : Int) := wrap_i64 (by omega) (by omega)
  have w2 : IntKind.i64.wrap ((k0 : Int) + 2) = (k : Int) := by rw [wrap_i64 (by omega) (by omega)]; omega
  have w3 : IntKind.i64.wrap ((k : Int) - 1) = ((k - 1 : Nat) : Int) := by rw [wrap_i64 (by omega) (by omega)]; omega
  have hk3 : 2 ≤ k := by omega
  obtain ⟨F, hF⟩ : ∃ F, F = rgF k := ⟨_, rfl⟩
  obtain ⟨X, hX⟩ : ∃ X : Nat → List Fm, X = fun i => fnG i F := ⟨_, rfl⟩
  have hX0 : X 0 = [] := by rw [hX]; rfl
  have hXl : ∀ i, (X i).length = i := fun i => by rw [hX]; exact fnG_len
  have hXS : ∀ i, X (i + 1) = X i ++ [F i] := fun i => by rw [hX]; exact fnG_succ
  have hXn : ∀ i, ∀ f ∈ X i, ∃ j, j < i ∧ f = rgF k j := fun i f hf => by
    rw [hX] at hf
    obtain ⟨j, hj, rfl⟩ := fnG_mem hf
    exact ⟨j, hj, by rw [hF]⟩
  have hXm : ∀ i, i ≤ k → ∀ f ∈ X i, ∃ j, j < k ∧ f = rgF k j := fun i hi f hf => by
    obtain ⟨j, hj, e⟩ := hXn i f hf
    exact ⟨j, by omega, e⟩
  have hXk : X k = fnG k (rgF k) := by rw [hX, hF]
  have o1 : PCall Tryz.prog 24 [tI .i64 1] (eI 1) := i_Of 1 (by decide) (by decide)
  have co := f6_Const_e 1 (by have := lN_1; omega)
  have hsolve := fun i (hi : i ≤ k) => solve_F (X i) k (by omega) (by rw [hXl]; omega) (fun f hf => by obtain ⟨j, hj, rfl⟩ := hXm i hi f hf; exact rg_wf hk3 hj)
    (fun f hf => by obtain ⟨j, hj, rfl⟩ := hXm i hi f hf; exact (rg_bd hk3 hj (by omega)).1.mono (by decide) (by decide)) (fun f hf => by obtain ⟨j, hj, rfl⟩ := hXm i hi f hf; exact (rg_bd hk3 hj (by omega)).2)
  have hcall := fun i (hi : i + 1 < k) => (ch_calls i (i + 1) (by omega) (by omega))
  have hFi : ∀ i, i + 1 < k → chF i (i + 1) = F i := fun i hi => by rw [hF]; unfold rgF; rw [if_pos hi]
  have hFe : chF (k - 1) 0 = F (k - 1) := by rw [hF]; unfold rgF; rw [if_neg (by omega)]
  have hce := ch_calls (k - 1) 0 (by omega) (by omega)
  rw [hFe] at hce
  obtain ⟨C, hC⟩ : ∃ C, C = constF 1 := ⟨_, rfl⟩
  rw [← hC] at co hce
  simp only [go_sem]
  ((repeat (refine regA_by 0 rfl ?_; simp only [go_sem, hk1, w1, w2])); refine call_pure (hk) rfl ?_; simp only [go_sem, hk1, w1, w2]; (repeat (refine regA_by 0 rfl ?_; simp only [go_sem, hk1, w1, w2])); refine call_pure (o1) rfl ?_; simp only [go_sem, hk1, w1, w2]; (repeat (refine regA_by 0 rfl ?_; simp only [go_sem, hk1, w1, w2])); refine call_pure (co) rfl ?_; simp only [go_sem, hk1, w1, w2]; (repeat (refine regA_by 0 rfl ?_; simp only [go_sem, hk1, w1, w2])))
  refine loop_inv (fun i : Nat => stL 86 [(3, litI .i64 k), (4, accA 900 3 (X i)), (5, .one (.ptr 5 0)), (6, litI .i64 i)] (accE 900 cF (X i) ++ [(5, (cF C).map .t)])) (fun i => i + 1 ≤ k) (fun i => k - i) 0 ?_ (by omega) ?_
  · rw [hX0]
    (refine gstep_list rfl ?_ ?_ ?_ ?_ <;> (try simp only [go_sem, tail_one]) <;> (try simp))
  · intro i hi
    have w4 : IntKind.i64.wrap ((i : Int) + 1) = (i : Int) + 1 := wrap_i64 (by omega) (by omega)
    by_cases hlt : i + 1 < k
    · have hltI : ((i : Int) + 1 < (k : Int)) = True := eq_true (by omega)
      obtain ⟨s1, s2⟩ := hcall i hlt
      rw [hFi i hlt, ← hC] at s2
      have v1 : PCall Tryz.prog 28 [tI .i64 (i : Int)] (eF (varF i)) := f6_Var (i : Int) (by omega) (by omega)
      have v2 : PCall Tryz.prog 28 [tI .i64 ((i : Int) + 1)] (eF (varF (i + 1))) := by
        have := f6_Var ((i : Int) + 1) (by omega) (by omega)
        rwa [show ((i : Int) + 1).toNat = i + 1 by omega] at this
      have hnx := hXS i
      have hxl := hXl i
      generalize varF i = A at *
      generalize varF (i + 1) = B at *
      generalize sbF i (i + 1) = D at *
      generalize F i = E at *
      simp only [go_sem, w4, hltI]
      refine regA_by 0 rfl ?_
      simp only [go_sem, w4]
      ((repeat (refine regA_by 0 rfl ?_; simp only [go_sem, w4])); refine call_pure (v1) rfl ?_; simp only [go_sem, w4]; (repeat (refine regA_by 0 rfl ?_; simp only [go_sem, w4])); refine call_pure (v2) rfl ?_; simp only [go_sem, w4]; (repeat (refine regA_by 0 rfl ?_; simp only [go_sem, w4])); refine call_pure (s1) rfl ?_; simp only [go_sem, w4]; (repeat (refine regA_by 0 rfl ?_; simp only [go_sem, w4])); refine call_pure (s2) rfl ?_; simp only [go_sem, w4]; (repeat (refine regA_by 0 rfl ?_; simp only [go_sem, w4])))
      refine opA_app_acc (sz := 3) (bytes := 56) (by simp only [go_sem, AppTy] <;> decide) cF_lenD (X i) [E] (b := 900) (by simp only [go_sem] <;> rfl) (by simp only [go_sem] <;> rfl) (by simp only [go_sem] <;> rfl) rfl (by simp) (by simp only [List.length_cons, List.length_nil] at *; omega) (by decide) ?_
      simp only [go_sem, w4]
      refine ⟨i + 1, by omega, (by show k - (i + 1) < k - i; omega), ?_⟩
      (refine gstep_list rfl ?_ ?_ ?_ ?_ <;> (try simp only [go_sem, tail_one, hnx]) <;> (try simp))
    · obtain rfl : i = k - 1 := by omega
      have hltI : (((k - 1 : Nat) : Int) + 1 < (k : Int)) = False := eq_false (by omega)
      have w5 : IntKind.i64.wrap ((k : Int) - 1) = ((k - 1 : Nat) : Int) := w3
      have hxl := hXl (k - 1)
      have hne : X (k - 1) ≠ [] := fun e => by rw [e] at hxl; simp at hxl; omega
      have hv : accC 900 3 (X (k - 1)) = .vec 900 3 0 (k - 1) := by
        cases e : X (k - 1) with
        | nil => exact (hne e).elim
        | cons y ys => rw [e] at hxl; rw [← hxl]; rfl
      have htr := treeOf_L (f := cF) (xs := X (k - 1)) cF_lenD
      rw [hxl] at htr
      have haH : ∀ o, accH cF (X (k - 1)) o = some (cellsL cF (X (k - 1))) := fun o => by
        cases e : X (k - 1) with
        | nil => exact (hne e).elim
        | cons y ys => rfl
      have hxl2 := hXl k
      have hne2 : X k ≠ [] := fun e => by rw [e] at hxl2; simp at hxl2; omega
      have hv2 : accC 900 3 (X k) = .vec 900 3 0 k := by
        cases e : X k with
        | nil => exact (hne2 e).elim
        | cons y ys => rw [e] at hxl2; rw [← hxl2]; rfl
      have htr2 := treeOf_L (f := cF) (xs := X k) cF_lenD
      rw [hxl2] at htr2
      have haH2 : ∀ o, accH cF (X k) o = some (cellsL cF (X k)) := fun o => by
        cases e : X k with
        | nil => exact (hne2 e).elim
        | cons y ys => rfl
      have hnx := hXS (k - 1)
      rw [show k - 1 + 1 = k by omega] at hnx
      have v1 : PCall Tryz.prog 28 [tI .i64 ((k - 1 : Nat) : Int)] (eF (varF (k - 1))) := f6_Var ((k - 1 : Nat) : Int) (by omega) (by omega)
      have v2 : PCall Tryz.prog 28 [tI .i64 0] (eF (varF 0)) := f6_Var 0 (by decide) (by decide)
      obtain ⟨s1, s2⟩ := hce
      rcases hsolve (k - 1) (by omega) with ⟨x1, _, _, hs1, _⟩ | ⟨g1, _, _, hn1, _, _⟩
      rotate_left 1
      · exfalso
        refine hn1.none (fun f hf => by obtain ⟨j, hj, rfl⟩ := hXn _ f hf; exact rg_wf hk3 (by omega)) (p := fun v => if v < k then (v : Rat) else 0) (fun v hv => if_neg (by omega)) fun f hf => ?_
        obtain ⟨j, hj, rfl⟩ := hXn _ f hf
        rw [rg_at hk3 (by omega), if_pos (show j + 1 < k by omega), if_pos (show j < k by omega), if_pos (show j + 1 < k by omega)]
        have : ((j + 1 : Nat) : Rat) = (j : Rat) + 1 := Rat.natCast_add _ _
        rw [this]; grind
      rcases hsolve k (Nat.le_refl _) with ⟨x2, _, _, _, hle⟩ | ⟨g, hg, hK, hns, hs2, hf⟩
      · exfalso
        exact rg_none hk3 fun i hi => hle _ (by rw [hXk]; unfold fnG; exact List.mem_map.2 ⟨i, List.mem_range.2 hi, rfl⟩)
      rw [hXk] at hns
      have hpos := rg_all hk3 hns
      rw [hXl] at hg
      clear hXk hns
      generalize varF (k - 1) = A at *
      generalize varF 0 = B at *
      generalize sbF (k - 1) 0 = D at *
      generalize F (k - 1) = E at *
      simp only [go_sem, w4, hltI]
      refine call_keep3 900 3 (k - 1) rfl hs1 (by simp only [go_sem, haH]) htr (by rw [hv]; simp [fA, fC, emb, eL, litI]) ?_
      simp only [go_sem]
      refine regA_by 0 rfl ?_
      simp only [go_sem, w5]
      ((repeat (refine regA_by 0 rfl ?_; simp only [go_sem, w5])); refine call_pure (v1) rfl ?_; simp only [go_sem, w5]; (repeat (refine regA_by 0 rfl ?_; simp only [go_sem, w5])); refine call_pure (v2) rfl ?_; simp only [go_sem, w5]; (repeat (refine regA_by 0 rfl ?_; simp only [go_sem, w5])); refine call_pure (s1) rfl ?_; simp only [go_sem, w5]; (repeat (refine regA_by 0 rfl ?_; simp only [go_sem, w5])); refine call_pure (s2) rfl ?_; simp only [go_sem, w5]; (repeat (refine regA_by 0 rfl ?_; simp only [go_sem, w5])))
      refine opA_app_acc (sz := 3) (bytes := 56) (by simp only [go_sem, AppTy] <;> decide) cF_lenD (X (k - 1)) [E] (b := 900) (by simp only [go_sem] <;> rfl) (by simp only [go_sem] <;> rfl) (by simp only [go_sem] <;> rfl) rfl (by simp) (by simp only [List.length_cons, List.length_nil] at *; omega) (by decide) ?_
      rw [← hnx]
      simp only [go_sem]
      rw [hv2]
      refine call_frz 900 3 k rfl hs2 (by simp only [go_sem, haH2]) htr2 (by simp [fA, fC, emb, eL, litI]) ?_
      simp only [go_sem]
      ((repeat (refine regA_by 0 rfl ?_; simp only [go_sem])); refine call_pure (hf) rfl ?_; simp only [go_sem]; (repeat (refine regA_by 0 rfl ?_; simp only [go_sem])))
      refine loop_inv (fun j : Nat => stL 86 [(3, litI .i64 k), (11, aLR g), (13, litI .i64 j)] []) (fun j => j ≤ k) (fun j => k - j) 0 ?_ (Nat.zero_le _) ?_
      · (refine gstep_list rfl ?_ ?_ ?_ ?_ <;> (try simp only [go_sem, tail_one]) <;> (try simp))
      · intro j hj
        simp only [go_sem]
        refine CondR_if (fun hlt => ?_) (fun hge => ?_)
        · have hlt' : j < g.length := by omega
          have hlI : ((j : Int) < (g.length : Int)) = True := eq_true (by omega)
          have hel : elemD cR g j = cR g[j] := elemD_lt hlt'
          have o1 := r_SignRat_e g[j] (by have := hK _ (List.getElem_mem hlt'); omega)
          have hp := hpos j (by omega)
          rw [List.getD_eq_getElem?_getD, List.getElem?_eq_getElem hlt'] at hp
          have hp2 : 0 < g[j] := hp
          have s1 : (g[j].num.sign ≤ 0) = False := eq_false (by have := of_eq_true (sgn_pos hp2); omega)
          generalize g[j] = q at *
          simp only [go_sem, hel, hlI]
          (repeat (refine And.intro (by omega) ?_))
          ((repeat (refine regA_by 0 rfl ?_; simp only [go_sem, hel, hlI])); refine call_pure (o1) rfl ?_; simp only [go_sem, hel, hlI]; (repeat (refine regA_by 0 rfl ?_; simp only [go_sem, hel, hlI])))
          simp only [go_sem, s1]
          refine ⟨j + 1, by omega, (by show k - (j + 1) < k - j; omega), ?_⟩
          (refine gstep_list rfl ?_ ?_ ?_ ?_ <;> (try simp only [go_sem, tail_one, wrap_i64 (n := (j : Int) + 1) (by omega) (by omega)]) <;> (try simp))
        · simp only [go_sem]
end Go.Proofs.YtfgejnedaijjiaaGreat
