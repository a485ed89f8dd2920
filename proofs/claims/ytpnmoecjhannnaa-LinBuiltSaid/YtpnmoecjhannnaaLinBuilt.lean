/- At every input the call answers true and leaves its arguments as they were; no conditions. -/
import Derived.Test.YtpnmoecjhannnaaPd
import Derived.Test.YtpnmoecjhannnaaQe
set_option linter.unusedSimpArgs false
set_option linter.unusedVariables false
namespace Go.Proofs.Ytpnmoecjhannnaa
open Go Go.Abs
set_option maxHeartbeats 16000000
def f8 (n : Int) : List T := [.lit (.int .i8 n)]
attribute [go_sem] f8
def bA (l : List Int) (k : Int) : Nat → Fm
  | 0 => constF k
  | i + 1 => addF (bA l k i) (scF (varF i) (l.getD i 0))
def jx (l : List Int) (t i : Nat) : Nat := (i + t) % l.length
def bB (l : List Int) (t : Nat) : Nat → Fm
  | 0 => constF 0
  | i + 1 => addF (scF (varF (jx l t i)) (l.getD (jx l t i) 0)) (bB l t i)
def cnt (l : List Int) : Nat → Nat
  | 0 => 0
  | i + 1 => if l.getD i 0 = 0 then cnt l i else cnt l i + 1
theorem cnt_le (l : List Int) : ∀ i, cnt l i ≤ i
  | 0 => Nat.le_refl _
  | i + 1 => by
    have := cnt_le l i
    show (if l.getD i 0 = 0 then cnt l i else cnt l i + 1) ≤ i + 1
    split <;> omega
theorem mer_snoc {i : Nat} {c : Int} : ∀ {l : List Mn}, (∀ m ∈ l, m.1 < i) → mer l [(i, c)] = l ++ [(i, c)] := by
  intro l
  induction l with
  | nil => intro _; exact mer_nil_left _
  | cons m l ih =>
    intro h
    have := h m (List.mem_cons_self ..)
    rw [mer_cons, if_pos this, ih fun m hm => h m (List.mem_cons_of_mem _ hm)]; rfl
theorem bA_step (l : List Int) (k : Int) (i : Nat) (h : ∀ m ∈ (bA l k i).1, m.1 < i) : (bA l k (i + 1)).1 = if l.getD i 0 = 0 then (bA l k i).1 else (bA l k i).1 ++ [(i, l.getD i 0)] := by
  show mer (bA l k i).1 (scF (varF i) (l.getD i 0)).1 = _
  split
  · rename_i e; rw [e, scF_eq0]; exact mer_nil_right _
  · rename_i e
    rw [scF_ne e]
    show mer _ [(i, 1 * l.getD i 0)] = _
    rw [Int.one_mul]; exact mer_snoc h
theorem bA_facts (l : List Int) (k : Int) : ∀ i, (∀ m ∈ (bA l k i).1, m.1 < i) ∧ (bA l k i).1.length = cnt l i ∧ (bA l k i).2 = k ∧ WF (bA l k i) ∧ ∀ v, coM (bA l k i).1 v = if v < i then l.getD v 0 else 0
  | 0 => ⟨(fun m hm => by cases hm), rfl, rfl, trivial, (fun v => by rw [if_neg (by omega)]; rfl)⟩
  | i + 1 => by
    obtain ⟨h1, h2, h3, h4, h5⟩ := bA_facts l k i
    have hs := bA_step l k i h1
    refine ⟨fun m hm => ?_, ?_, ?_, WF_add h4 (WF_sc (WF_var _) _), fun v => ?_⟩
    · rw [hs] at hm
      split at hm
      · have := h1 m hm; omega
      · rcases List.mem_append.1 hm with hm | hm
        · have := h1 m hm; omega
        · obtain rfl := List.mem_singleton.1 hm; exact Nat.lt_succ_self _
    · rw [hs]
      show _ = if l.getD i 0 = 0 then cnt l i else cnt l i + 1
      split
      · exact h2
      · rw [List.length_append, h2]; rfl
    · show (bA l k i).2 + (scF (varF i) (l.getD i 0)).2 = k
      rw [k_sc, h3]; show k + 0 * _ = k; omega
    · show coM (addF _ _).1 v = _
      rw [co_add h4 (WF_sc (WF_var _) _), h5, co_sc, co_var]
      by_cases e : i = v
      · subst e; rw [if_neg (by omega), if_pos rfl, if_pos (by omega)]; omega
      · rw [if_neg e]
        by_cases g : v < i
        · rw [if_pos g, if_pos (by omega)]; omega
        · rw [if_neg g, if_neg (by omega)]; omega
theorem jx_inj {l : List Int} {t i i' : Nat} (h : i < l.length) (h' : i' < l.length) (e : jx l t i = jx l t i') : i = i' := by
  have key : ∀ {a b : Nat}, a ≤ b → b < l.length → (b + t) % l.length = (a + t) % l.length → a = b := fun {a b} hab hb e => by
    have := Nat.sub_mod_eq_zero_of_mod_eq e
    rw [show b + t - (a + t) = b - a by omega, Nat.mod_eq_of_lt (by omega)] at this
    omega
  unfold jx at e
  rcases Nat.le_total i i' with g | g
  · exact key g h' e.symm
  · exact (key g h e).symm
theorem jx_onto {l : List Int} (t : Nat) {v : Nat} (h : v < l.length) : ∃ i, i < l.length ∧ jx l t i = v := by
  have hp : 0 < l.length := by omega
  refine ⟨(v + l.length - t % l.length) % l.length, Nat.mod_lt _ hp, ?_⟩
  unfold jx
  have ht := Nat.mod_lt t hp
  have hd := Nat.mod_add_div t l.length
  rw [Nat.mod_add_mod, show v + l.length - t % l.length + t = v + l.length * (t / l.length + 1) by rw [Nat.mul_add, Nat.mul_one]; omega, Nat.add_mul_mod_self_left, Nat.mod_eq_of_lt h]
theorem bB_facts (l : List Int) (t : Nat) : ∀ i, i ≤ l.length → (bB l t i).2 = 0 ∧ WF (bB l t i) ∧ (∀ v, (∃ i', i' < i ∧ jx l t i' = v) → coM (bB l t i).1 v = l.getD v 0) ∧ ∀ v, (¬ ∃ i', i' < i ∧ jx l t i' = v) → coM (bB l t i).1 v = 0
  | 0, _ => ⟨rfl, trivial, fun v ⟨i', h, _⟩ => by omega, fun v _ => rfl⟩
  | i + 1, hi => by
    obtain ⟨h3, h4, h5, h6⟩ := bB_facts l t i (by omega)
    have hc : ∀ v, coM (bB l t (i + 1)).1 v = (if jx l t i = v then l.getD v 0 else 0) + coM (bB l t i).1 v := fun v => by
      show coM (addF _ _).1 v = _
      rw [co_add (WF_sc (WF_var _) _) h4, co_sc, co_var]
      split
      · rename_i e; rw [e, Int.one_mul]
      · rw [Int.zero_mul]
    refine ⟨?_, WF_add (WF_sc (WF_var _) _) h4, fun v hv => ?_, fun v hv => ?_⟩
    · show (scF (varF _) _).2 + (bB l t i).2 = 0
      rw [k_sc, h3]; show 0 * _ + 0 = 0; omega
    · rw [hc]
      by_cases e : jx l t i = v
      · rw [if_pos e, h6 v (fun ⟨i', g1, g2⟩ => by have := jx_inj (l := l) (t := t) (i := i) (i' := i') (by omega) (by omega) (by rw [e, g2]); omega)]; omega
      · rw [if_neg e]
        obtain ⟨i', g1, g2⟩ := hv
        rw [h5 v ⟨i', by by_cases g : i' = i; subst g; exact absurd g2 e; omega, g2⟩]; omega
    · rw [hc, if_neg (fun e => hv ⟨i, by omega, e⟩), h6 v (fun ⟨i', g1, g2⟩ => hv ⟨i', by omega, g2⟩)]; rfl
theorem bAB (l : List Int) (k : Int) (t : Nat) : addF (bB l t l.length) (constF k) = bA l k l.length := by
  obtain ⟨_, _, h3, h4, h5⟩ := bA_facts l k l.length
  obtain ⟨g3, g4, g5, g6⟩ := bB_facts l t l.length (Nat.le_refl _)
  refine WF_ext (WF_add g4 (WF_const _)) h4 (fun v => ?_) ?_
  · rw [co_add g4 (WF_const _), h5]
    show _ + 0 = _
    rw [Int.add_zero]
    by_cases hv : v < l.length
    · rw [if_pos hv, g5 v (jx_onto t hv)]
    · rw [if_neg hv, g6 v (fun ⟨i', h, e⟩ => by have : jx l t i' < l.length := Nat.mod_lt _ (by omega); omega)]
  · rw [k_add, g3, h3]; show 0 + k = k; omega
theorem lN_f8 {l : List Int} (hl : ∀ n ∈ l, -128 ≤ n ∧ n < 128) (i : Nat) : (l.getD i 0).natAbs ≤ 128 ∧ lN (l.getD i 0) ≤ 1 := by
  have h : (l.getD i 0).natAbs ≤ 128 := by
    rw [List.getD_eq_getElem?_getD]
    cases e : l[i]? with
    | none => simp
    | some n => have := hl n (List.mem_of_getElem? e); simp; omega
  exact ⟨h, lN_small (by omega)⟩
theorem Bd_bA {l : List Int} (hl : ∀ n ∈ l, -128 ≤ n ∧ n < 128) {k : Int} (hk : lN k ≤ 1) : ∀ i, i ≤ 8 → Bd i (3 + i) (bA l k i)
  | 0, _ => (Bd_const k).mono (Nat.le_refl _) (by omega)
  | i + 1, hi => (Bd_add (Bd_bA hl hk i (by omega)) (Bd_sc (Bd_var (v := i) (by omega)) (l.getD i 0))).mono (by omega) (by have := (lN_f8 hl i).2; omega)
theorem Bd_bB {l : List Int} (hl : ∀ n ∈ l, -128 ≤ n ∧ n < 128) (h8 : l.length ≤ 8) {t : Nat} : ∀ i, i ≤ 8 → Bd i (3 + i) (bB l t i)
  | 0, _ => (Bd_const (N := 0) 0).mono (Nat.le_refl _) (by rw [lN_zero]; omega)
  | i + 1, hi => by
    by_cases h0 : l.length = 0
    · have hz : l = [] := List.length_eq_zero_iff.1 h0
      show Bd _ _ (addF (scF (varF _) (l.getD _ 0)) _)
      rw [hz, show ([] : List Int).getD (jx [] t i) 0 = 0 from rfl, scF_eq0, add_zero_left, ← hz]
      exact (Bd_bB hl h8 i (by omega)).mono (by omega) (by omega)
    · have hj : jx l t i < l.length := Nat.mod_lt _ (by omega)
      exact (Bd_add (Bd_sc (Bd_var (v := jx l t i) (by omega)) (l.getD (jx l t i) 0)) (Bd_bB hl h8 i (by omega))).mono (by omega) (by have := (lN_f8 hl (jx l t i)).2; omega)
set_option maxRecDepth 100000 in
theorem p_LinBuilt (l : List Int) (hlm : l.length ≤ maxLen) (hl : ∀ n ∈ l, -128 ≤ n ∧ n < 128) (v : Int) (hv0 : 0 ≤ v) (hv1 : v < 256) (k : Int) (hk0 : -32768 ≤ k) (hk1 : k < 32768) : PCall Try.prog 8 [.one (eL f8 l), tI .u8 v, tI .i16 k] (tB true) := by
  have hk := known6
  by_cases f1 : l.length ≤ 8
  · have f1' : ((8 : Int) < (l.length : Int)) = False := eq_false (by omega)
    obtain ⟨t, rfl⟩ : ∃ t : Nat, v = t := ⟨v.toNat, by omega⟩
    have wk : IntKind.wrap .i64 k = k := wrap_i64 (by omega) (by omega)
    have wt : IntKind.wrap .i64 (t : Int) = t := wrap_i64 (by omega) (by omega)
    have lk : lN k ≤ 1 := lN_small (by omega)
    have o1 := i_Of k (by omega) (by omega)
    have c1 := l_Const_e k (by omega)
    have c0 := l_Const_0
    have AB : ∀ i, i ≤ 8 → Bd 20 20 (bA l k i) := fun i hi => (Bd_bA hl lk i hi).mono (by omega) (by omega)
    have BB' : ∀ i, i ≤ 8 → Bd 20 20 (bB l t i) := fun i hi => (Bd_bB hl f1 i hi).mono (by omega) (by omega)
    have WA : ∀ i, WF (bA l k i) := fun i => (bA_facts l k i).2.2.2.1
    have WB : ∀ i, i ≤ l.length → WF (bB l t i) := fun i hi => (bB_facts l t i hi).2.1
    refine pcall_of_wpA mixed Try.call8 Try.func8 rfl Try.ntmps8 Try.results8 (by simp) (by decide) ?_
    simp only [go_sem]
    ((repeat (refine regA_by 0 rfl ?_; simp only [go_sem, f1', wk])); refine call_pure (hk) rfl ?_; simp only [go_sem, f1', wk]; (repeat (refine regA_by 0 rfl ?_; simp only [go_sem, f1', wk])); refine call_pure (o1) rfl ?_; simp only [go_sem, f1', wk]; (repeat (refine regA_by 0 rfl ?_; simp only [go_sem, f1', wk])); refine call_pure (c1) rfl ?_; simp only [go_sem, f1', wk]; (repeat (refine regA_by 0 rfl ?_; simp only [go_sem, f1', wk])); refine call_pure (c0) rfl ?_; simp only [go_sem, f1', wk]; (repeat (refine regA_by 0 rfl ?_; simp only [go_sem, f1', wk])))
    refine loop_inv (fun i : Nat => stL 114 [(0, .one (.t (eL f8 l))), (1, litI .u8 t), (2, litI .i16 k), (7, .one (.ptr 7 0)), (8, .one (.ptr 8 0)), (9, litI .i64 (cnt l i)), (10, litI .i64 i)] [(7, (cF (bA l k i)).map .t), (8, (cF (bB l t i)).map .t)]) (fun i => i ≤ l.length) (fun i => l.length - i) 0 ?_ (Nat.zero_le _) ?_
    · rw [show bA l k 0 = constF k from rfl, show bB l t 0 = constF 0 from rfl, show cnt l 0 = 0 from rfl]
      (refine gstep_list rfl ?_ ?_ ?_ ?_ <;> (try simp only [go_sem, tail_one]) <;> (try simp))
    · intro i hi
      simp only [go_sem]
      refine CondR_if (fun hlt => ?_) (fun hge => ?_)
      · have hlt' : i < l.length := by omega
        have hj : jx l t i < l.length := Nat.mod_lt _ (by omega)
        have hel : elemD f8 l i = f8 (l.getD i 0) := by rw [elemD_lt hlt', List.getD_eq_getElem?_getD, List.getElem?_eq_getElem hlt']; rfl
        have helj : elemD f8 l (jx l t i) = f8 (l.getD (jx l t i) 0) := by rw [elemD_lt hj, List.getD_eq_getElem?_getD, List.getElem?_eq_getElem hj]; rfl
        have hb1 := lN_f8 hl i
        have hb2 := lN_f8 hl (jx l t i)
        have v1 := l_Var (i : Int) (by omega) (by omega)
        rw [Int.toNat_natCast] at v1
        have o2 := i_Of (l.getD i 0) (by omega) (by omega)
        have s1 := l_Scale_e (varF i) (l.getD i 0) (N := 1) (L := 1) (by decide) (by decide) (WF_var i) (Bd_var (by omega)) (by omega)
        have a1 := l_Add_e (bA l k i) (scF (varF i) (l.getD i 0)) (N := 20) (L := 20) (by decide) (by decide) (WA i) (WF_sc (WF_var i) _) (AB i (by omega)) ((Bd_sc (Bd_var (v := i) (by omega)) (l.getD i 0)).mono (by omega) (by omega))
        have v2 := l_Var (jx l t i : Int) (by omega) (by omega)
        rw [Int.toNat_natCast] at v2
        have o3 := i_Of (l.getD (jx l t i) 0) (by omega) (by omega)
        have s2 := l_Scale_e (varF (jx l t i)) (l.getD (jx l t i) 0) (N := 1) (L := 1) (by decide) (by decide) (WF_var _) (Bd_var (by omega)) (by omega)
        have a2 := l_Add_e (scF (varF (jx l t i)) (l.getD (jx l t i) 0)) (bB l t i) (N := 20) (L := 20) (by decide) (by decide) (WF_sc (WF_var _) _) (WB i (by omega)) ((Bd_sc (Bd_var (v := jx l t i) (by omega)) (l.getD (jx l t i) 0)).mono (by omega) (by omega)) (BB' i (by omega))
        have eA : addF (bA l k i) (scF (varF i) (l.getD i 0)) = bA l k (i + 1) := rfl
        have eB : addF (scF (varF (jx l t i)) (l.getD (jx l t i) 0)) (bB l t i) = bB l t (i + 1) := rfl
        have eC : cnt l (i + 1) = if l.getD i 0 = 0 then cnt l i else cnt l i + 1 := rfl
        have ht : Int.tmod ((i : Int) + (t : Int)) (l.length : Int) = (jx l t i : Int) := rfl
        have hw : IntKind.wrap .i64 ((i : Int) + (t : Int)) = (i : Int) + t := wrap_i64 (by omega) (by omega)
        have hlz : ((l.length : Int) = 0) = False := eq_false (by omega)
        have w1 : IntKind.wrap .i64 (l.getD i 0) = l.getD i 0 := wrap_i64 (by omega) (by omega)
        have w2 : IntKind.wrap .i64 (l.getD (jx l t i) 0) = l.getD (jx l t i) 0 := wrap_i64 (by omega) (by omega)
        have hjlt : ((jx l t i : Int) < (l.length : Int)) = True := eq_true (by omega)
        rw [eA] at a1
        rw [eB] at a2
        have hcn := cnt_le l i
        generalize jx l t i = j at *
        generalize l.getD i 0 = z1 at *
        generalize l.getD j 0 = z2 at *
        generalize scF (varF i) z1 = S1 at *
        generalize scF (varF j) z2 = S2 at *
        generalize varF i = V1 at *
        generalize varF j = V2 at *
        simp only [go_sem, hlt]
        refine regA_by 0 rfl ?_
        simp only [go_sem]
        refine call_pure v1 rfl ?_
        simp only [go_sem, hel, hlt, w1]
        (repeat (refine And.intro (by omega) ?_))
        ((repeat (refine regA_by 0 rfl ?_; simp only [go_sem])); refine call_pure (o2) rfl ?_; simp only [go_sem]; (repeat (refine regA_by 0 rfl ?_; simp only [go_sem])); refine call_pure (s1) rfl ?_; simp only [go_sem]; (repeat (refine regA_by 0 rfl ?_; simp only [go_sem])); refine call_pure (a1) rfl ?_; simp only [go_sem]; (repeat (refine regA_by 0 rfl ?_; simp only [go_sem])))
        simp only [go_sem, wt, hw, ht, hlz]
        try (refine regA_by 0 rfl ?_)
        simp only [go_sem]
        refine call_pure v2 rfl ?_
        simp only [go_sem, helj, hjlt, w2]
        (repeat (refine And.intro (by omega) ?_))
        ((repeat (refine regA_by 0 rfl ?_; simp only [go_sem])); refine call_pure (o3) rfl ?_; simp only [go_sem]; (repeat (refine regA_by 0 rfl ?_; simp only [go_sem])); refine call_pure (s2) rfl ?_; simp only [go_sem]; (repeat (refine regA_by 0 rfl ?_; simp only [go_sem])); refine call_pure (a2) rfl ?_; simp only [go_sem]; (repeat (refine regA_by 0 rfl ?_; simp only [go_sem])))
        simp only [go_sem, hel, hlt]
        (repeat (refine And.intro (by omega) ?_))
        by_cases hz : z1 = 0
        · rw [if_pos hz] at eC
          have hz' : (z1 = 0) = True := eq_true hz
          simp only [go_sem, hz']
          refine ⟨i + 1, hlt', (by show l.length - (i + 1) < l.length - i; omega), ?_⟩
          (refine gstep_list rfl ?_ ?_ ?_ ?_ <;> (try simp only [go_sem, tail_one, eC, wrap_i64 (n := (i : Int) + 1) (by omega) (by omega)]) <;> (try simp))
        · rw [if_neg hz] at eC
          have hz' : (z1 = 0) = False := eq_false hz
          simp only [go_sem, hz']
          refine ⟨i + 1, hlt', (by show l.length - (i + 1) < l.length - i; omega), ?_⟩
          (refine gstep_list rfl ?_ ?_ ?_ ?_ <;> (try simp only [go_sem, tail_one, eC, wrap_i64 (n := (cnt l i : Int) + 1) (by omega) (by omega), wrap_i64 (n := (i : Int) + 1) (by omega) (by omega)]) <;> (try simp))
      · obtain rfl : i = l.length := by omega
        have hcn := cnt_le l l.length
        have a3 := l_Add_e (bB l t l.length) (constF k) (N := 20) (L := 20) (by decide) (by decide) (WB _ (Nat.le_refl _)) (WF_const k) (BB' _ (by omega)) ((Bd_const (N := 20) k).mono (Nat.le_refl _) (by omega))
        rw [bAB] at a3
        obtain ⟨_, g2, g3, _, g5⟩ := bA_facts l k l.length
        have bE := AB l.length (by omega)
        have wE := WA l.length
        have s3 := tB_of (l_Same_e (bA l k l.length) (bA l k l.length) (N := 20) (L := 20) (by decide) (by decide) wE wE bE bE) rfl
        have s4 := l_Is_e (bA l k l.length) (N := 20) (L := 20) (by decide) (by decide) wE bE
        have s5 := tB_of (i_Equal_e k k (by omega) (by omega)) rfl
        have co : ∀ i : Nat, i < l.length → PCall Try.prog 51 [eF (bA l k l.length), tI .i64 i] (eI (l.getD i 0)) := fun i hi => by
          have := l_Coef_e (bA l k l.length) i (N := 20) (L := 20) (by decide) (by decide) wE bE
          rwa [coI_nat, g5, if_pos hi] at this
        have lenE : ((bA l k l.length).1.length : Int) = (cnt l l.length : Int) := by rw [g2]
        clear AB BB' WA WB bE wE
        generalize bB l t l.length = FB at *
        generalize bA l k l.length = FA at *
        generalize constF k = FK at *
        generalize cnt l l.length = cc at *
        simp only [go_sem]
        ((repeat (refine regA_by 0 rfl ?_; simp only [go_sem, wk])); refine call_pure (o1) rfl ?_; simp only [go_sem, wk]; (repeat (refine regA_by 0 rfl ?_; simp only [go_sem, wk])); refine call_pure (c1) rfl ?_; simp only [go_sem, wk]; (repeat (refine regA_by 0 rfl ?_; simp only [go_sem, wk])); refine call_pure (a3) rfl ?_; simp only [go_sem, wk]; (repeat (refine regA_by 0 rfl ?_; simp only [go_sem, wk])); refine call_pure (s3) rfl ?_; simp only [go_sem, wk]; (repeat (refine regA_by 0 rfl ?_; simp only [go_sem, wk])); refine call_pure (s4) rfl ?_; simp only [go_sem, wk]; (repeat (refine regA_by 0 rfl ?_; simp only [go_sem, wk])))
        simp only [go_sem, lenE, g3, wk]
        ((repeat (refine regA_by 0 rfl ?_; simp only [go_sem, wk])); refine call_pure (o1) rfl ?_; simp only [go_sem, wk]; (repeat (refine regA_by 0 rfl ?_; simp only [go_sem, wk])); refine call_pure (s5) rfl ?_; simp only [go_sem, wk]; (repeat (refine regA_by 0 rfl ?_; simp only [go_sem, wk])))
        refine loop_inv (fun i : Nat => stL 114 [(0, .one (.t (eL f8 l))), (7, .one (.ptr 7 0)), (12, litI .i64 i)] [(7, (cF FA).map .t)]) (fun i => i ≤ l.length) (fun i => l.length - i) 0 ?_ (Nat.zero_le _) ?_
        · (refine gstep_list rfl ?_ ?_ ?_ ?_ <;> (try simp only [go_sem, tail_one, g3]) <;> (try simp))
        · intro i hi
          simp only [go_sem]
          refine CondR_if (fun hlt => ?_) (fun hge => ?_)
          · have hlt' : i < l.length := by omega
            have hel : elemD f8 l i = f8 (l.getD i 0) := by rw [elemD_lt hlt', List.getD_eq_getElem?_getD, List.getElem?_eq_getElem hlt']; rfl
            have hb1 := lN_f8 hl i
            have o2 := i_Of (l.getD i 0) (by omega) (by omega)
            have w1 : IntKind.wrap .i64 (l.getD i 0) = l.getD i 0 := wrap_i64 (by omega) (by omega)
            have c2 := co i hlt'
            have e2 := tB_of (i_Equal_e (l.getD i 0) (l.getD i 0) (by omega) (by omega)) rfl
            generalize l.getD i 0 = z at *
            simp only [go_sem, hlt]
            refine regA_by 0 rfl ?_
            simp only [go_sem]
            refine call_pure c2 rfl ?_
            simp only [go_sem, hel, hlt, w1]
            (repeat (refine And.intro (by omega) ?_))
            ((repeat (refine regA_by 0 rfl ?_; simp only [go_sem])); refine call_pure (o2) rfl ?_; simp only [go_sem]; (repeat (refine regA_by 0 rfl ?_; simp only [go_sem])); refine call_pure (e2) rfl ?_; simp only [go_sem]; (repeat (refine regA_by 0 rfl ?_; simp only [go_sem])))
            refine ⟨i + 1, hlt', (by show l.length - (i + 1) < l.length - i; omega), ?_⟩
            (refine gstep_list rfl ?_ ?_ ?_ ?_ <;> (try simp only [go_sem, tail_one, wrap_i64 (n := (i : Int) + 1) (by omega) (by omega)]) <;> (try simp))
          · simp only [go_sem]
            try rfl
  · have f1' : ((8 : Int) < (l.length : Int)) = True := eq_true (by omega)
    refine pcall_of_wpA mixed Try.call8 Try.func8 rfl Try.ntmps8 Try.results8 (by simp) (by decide) ?_
    simp only [go_sem]
    ((repeat (refine regA_by 0 rfl ?_; simp only [go_sem, f1'])); refine call_pure (hk) rfl ?_; simp only [go_sem, f1']; (repeat (refine regA_by 0 rfl ?_; simp only [go_sem, f1'])))
end Go.Proofs.Ytpnmoecjhannnaa
namespace Go.Proofs.Ytpnmoecjhannnaa
open Go Go.Abs Go.ChangeShapes Go.WideShapes Go.ChangeAt Go.RowKit
set_option maxRecDepth 100000
theorem linBuilt_lifted (os : Os) (started : os.Started) (H : Type) (enc : TypeId × Value → H) :
    ReturnsInHanded {} Try.checked os 8 .any (Rows.linBuiltSpec.pre6 enc Try.prog Try.f8 Rows.linBuiltRow.domain false) (Rows.linBuiltSpec.post enc Try.prog Try.f8 false true false false) := by
  refine returnsInHanded_of_change (C := Try.checked) Try.ownK started (by kernel_rfl) Try.func8
    (ChangeSpec.witness6 (enc := enc) (C := Try.checked) false ⟨#[], #[.slice none 0 0, .int .u8 0, .int .i16 0], []⟩ 8 (by kernel_rfl) (by kernel_rfl) (by kernel_rfl) (by kernel_rfl)) ?_
  intro W base args ds gs before hval hW _ _
  refine row_of_pcall (S := plainS) (tb := 4) plain_ok Try.laidOut (by intro t ht; revert t; decide +kernel) rfl Try.underlying4 rfl (fun ds h => ?_) (fun tvs h => ?_) hval hW
  · match ds, h with
    | [d0, d1, d2], _ => rfl
  · obtain ⟨x0, _, rfl, h0, h⟩ := wtvs_cons h
    obtain ⟨x1, _, rfl, h1, h⟩ := wtvs_cons h
    obtain ⟨x2, _, rfl, h2, h⟩ := wtvs_cons h
    obtain rfl := wtvs_nil h
    obtain ⟨l0, rfl, j0, k0⟩ := wtv_i8s h0
    obtain ⟨n1, rfl, k1⟩ := wtv_int Try.underlying5 h1
    have k1 := wf_u8 k1
    obtain ⟨n2, rfl, k2⟩ := wtv_int Try.underlying22 h2
    have k2 := wf_i16 k2
    exact p_LinBuilt l0 j0 k0 n1 k1.1 k1.2 n2 k2.1 k2.2

theorem linBuilt_holds : Rows.LinBuiltSaid :=
  OpenClaim.holds_of_wide 8 Try.f8 rfl rfl rfl rfl rfl rfl rfl ⟨rfl, rfl, rfl, rfl, rfl⟩ rfl rfl rfl rfl rfl (by kernel_rfl) Try.func8 (by kernel_rfl)
    (of_decide_eq_true (by kernel_rfl)) (by unfold Func.isWrapper; first | (rw [if_pos (by decide +kernel)]; kernel_rfl) | (rw [if_neg (by decide +kernel)]; exact ⟨rfl, rfl⟩))
    (fun os started H enc _ => linBuilt_lifted os started H enc)
end Go.Proofs.Ytpnmoecjhannnaa
