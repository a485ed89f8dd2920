/- At every input the call answers true and leaves its arguments as they were; no conditions. -/
import Derived.Test.YtfgejnedaijjiaaGreatQz
import Derived.Test.YtfgejnedaijjiaaGreatMf
import Derived.Test.YtfgejnedaijjiaaGreatQb
import Derived.Test.YtfgejnedaijjiaaGreatQa
set_option linter.unusedSimpArgs false
set_option linter.unusedVariables false
namespace Go.Proofs.YtfgejnedaijjiaaGreat
open Go Go.Abs
set_option maxHeartbeats 1000000
/-! ### Forms: what is in memory, what they are worth -/
/-- A part as it is kept. -/
def cMn (m : Mn) : List T := [.lit (.int .i64 m.1), .lit (.bool (decide (m.2 < 0))), eN (dig m.2.natAbs)]
theorem cMn_len (m : Mn) : (cMn m).length = 3 := rfl
def eMn (m : Mn) : MM := ((m.1 : Int), decide (m.2 < 0), dig m.2.natAbs)
abbrev cF (f : Fm) : List T := [eL cMn f.1, .lit (.bool (decide (f.2 < 0))), eN (dig f.2.natAbs)]
/-- A form as it is kept. -/
abbrev eF (f : Fm) : TV := .agg (cF f)
def encL (f : Fm) : LL := (f.1.map eMn, decide (f.2 < 0), dig f.2.natAbs)
theorem eL_eMn (l : List Mn) : eL cM (l.map eMn) = eL cMn l := by unfold eL; rw [List.map_map]; rfl
theorem gL_encL (f : Fm) : gL (encL f) = eF f := by
  show TV.agg [eL cM (f.1.map eMn), _, _] = _; rw [eL_eMn]; rfl
def IsM : Int → List MM → Prop
  | _, [] => True
  | n, m :: l => n < m.1 ∧ IsI m.2.1 m.2.2 ∧ iv m.2.1 m.2.2 ≠ 0 ∧ IsM m.1 l
instance decIsM : ∀ (n : Int) (l : List MM), Decidable (IsM n l)
  | _, [] => isTrue trivial
  | n, m :: l => by
    have := decIsM m.1 l
    unfold IsM; exact inferInstance
def IsL (l : LL) : Prop := IsM (-1) l.1 ∧ IsI l.2.1 l.2.2
instance (l : LL) : Decidable (IsL l) := by unfold IsL; exact inferInstance
def dM (m : MM) : Mn := (m.1.toNat, iv m.2.1 m.2.2)
/-- What a form in memory is worth: 0 what isn't one. -/
def lv (l : LL) : Fm := if IsL l then (l.1.map dM, iv l.2.1 l.2.2) else ([], 0)
theorem IsM.back : ∀ {l : List MM} {n : Int}, -1 ≤ n → IsM n l → (l.map dM).map eMn = l ∧ WM (n + 1).toNat (l.map dM) := by
  intro l
  induction l with
  | nil => intros; exact ⟨rfl, trivial⟩
  | cons m l ih =>
    intro n hn h
    obtain ⟨h1, h2, h3, h4⟩ := h
    obtain ⟨i1, i2⟩ := ih (by omega) h4
    have e := eI_iv h2
    have e1 : m.2.1 = decide (iv m.2.1 m.2.2 < 0) := by injection e with e; injection e with e1 _; injection e1 with e1; injection e1
    have e2 : m.2.2 = dig (iv m.2.1 m.2.2).natAbs := by
      have hN : IsN m.2.2 := h2.1
      injection e with e; injection e with _ e2; injection e2 with e2 _
      injection e2 with _ e2
      exact (List.map_inj_right (fun x y e => by injection e with e _; injection e with e; injection e with _ e; omega)).1 e2
    refine ⟨?_, ?_⟩
    · rw [List.map_cons, List.map_cons, i1]
      congr 1
      show (((m.1.toNat : Nat) : Int), decide (iv m.2.1 m.2.2 < 0), dig (iv m.2.1 m.2.2).natAbs) = m
      rw [← e1, ← e2, show ((m.1.toNat : Nat) : Int) = m.1 by omega]
    · refine ⟨?_, h3, ?_⟩
      · show (n + 1).toNat ≤ m.1.toNat; omega
      · show WM (m.1.toNat + 1) _
        rwa [show m.1.toNat + 1 = (m.1 + 1).toNat by omega]
theorem eF_lv {l : LL} (h : IsL l) : gL l = eF (lv l) := by
  rw [← gL_encL]
  unfold lv
  rw [if_pos h]
  obtain ⟨i1, _⟩ := IsM.back (Int.le_refl _) h.1
  have e := eI_iv h.2
  injection e with e; injection e with e1 e2; injection e1 with e1; injection e1 with e1; injection e2 with e2 _
  injection e2 with _ e2
  have e2 := (List.map_inj_right (fun x y e => by injection e with e _; injection e with e; injection e with _ e; omega)).1 e2
  have : l = encL (l.1.map dM, iv l.2.1 l.2.2) := Prod.ext i1.symm (Prod.ext e1 e2)
  rw [← this]
theorem WF_lv (l : LL) : WF (lv l) := by
  unfold lv; split
  · rename_i h; exact (IsM.back (Int.le_refl _) h.1).2
  · trivial
theorem IsM_enc : ∀ {l : List Mn} {n : Nat} {k : Int}, k < (n : Int) → WM n l → IsM k (l.map eMn) := by
  intro l
  induction l with
  | nil => intros; trivial
  | cons m l ih =>
    intro n k hk h
    refine ⟨?_, IsI_eI _, ?_, ih (n := m.1 + 1) ?_ h.2.2⟩
    · show k < (m.1 : Int); have := h.1; omega
    · show iv (decide (m.2 < 0)) (dig m.2.natAbs) ≠ 0; rw [iv_eI]; exact h.2.1
    · show (m.1 : Int) < ((m.1 + 1 : Nat) : Int); omega
theorem IsL_enc {f : Fm} (h : WF f) : IsL (encL f) := ⟨IsM_enc (n := 0) (by omega) h, IsI_eI _⟩
theorem dM_eMn (m : Mn) : dM (eMn m) = m := by
  show (((m.1 : Int)).toNat, iv (decide (m.2 < 0)) (dig m.2.natAbs)) = m
  rw [iv_eI]; rfl
theorem lv_enc {f : Fm} (h : WF f) : lv (encL f) = f := by
  unfold lv; rw [if_pos (IsL_enc h)]
  show ((f.1.map eMn).map dM, iv (decide (f.2 < 0)) (dig f.2.natAbs)) = f
  rw [iv_eI, List.map_map, show dM ∘ eMn = id from funext dM_eMn, List.map_id]
theorem eF_inj {f g : Fm} : eF f = eF g ↔ f = g := by
  refine ⟨fun h => ?_, fun h => by rw [h]⟩
  have i1 : ∀ {u v : List Nat}, eN u = eN v → u = v := fun {u v} e => by
    injection e with e1 e2
    exact (List.map_inj_right (fun x y e => by injection e with e _; injection e with e; injection e with _ e; omega)).1 e2
  injection h with h; injection h with h1 h; injection h with h2 h; injection h with h3 _
  injection h2 with h2; injection h2 with h2
  injection h1 with _ h1
  refine Prod.ext ((List.map_inj_right (fun x y e => ?_)).1 h1) (eI_inj.1 ⟨h2, i1 h3⟩)
  injection e with e1 e; injection e with e2 e; injection e with e3 _
  injection e1 with e1; injection e1 with _ e1
  injection e2 with e2; injection e2 with e2
  exact Prod.ext (by omega) (eI_inj.1 ⟨e2, i1 e3⟩)

/-! ### How great forms are -/
/-- So many parts at most, of so many limbs. -/
def Bd (N L : Nat) (f : Fm) : Prop := f.1.length ≤ N ∧ (∀ m ∈ f.1, m.1 < 9223372036854775808 ∧ lN m.2 ≤ L) ∧ lN f.2 ≤ L
theorem Bd.mono {N L N' L' : Nat} {f : Fm} (h : Bd N L f) (h1 : N ≤ N') (h2 : L ≤ L') : Bd N' L' f :=
  ⟨Nat.le_trans h.1 h1, fun m hm => ⟨(h.2.1 m hm).1, Nat.le_trans (h.2.1 m hm).2 h2⟩, Nat.le_trans h.2.2 h2⟩
theorem Bd_zero {N L : Nat} : Bd N L ([], 0) := ⟨Nat.zero_le _, (fun m hm => by cases hm), (by show lN 0 ≤ L; rw [lN_zero]; exact Nat.zero_le _)⟩
theorem Bd_const {N : Nat} (k : Int) : Bd N (lN k) (constF k) := ⟨Nat.zero_le _, (fun m hm => by cases hm), Nat.le_refl _⟩
theorem Bd_var {v : Nat} (h : v < 9223372036854775808) : Bd 1 1 (varF v) := ⟨Nat.le_refl _, (fun m hm => by obtain rfl := List.mem_singleton.1 hm; exact ⟨h, lN_one⟩), (by show lN 0 ≤ 1; rw [lN_zero]; omega)⟩
theorem Bd_add {N L M K : Nat} {a b : Fm} (ha : Bd N L a) (hb : Bd M K b) : Bd (N + M) (max L K + 1) (addF a b) := by
  refine ⟨Nat.le_trans mer_length (Nat.add_le_add ha.1 hb.1), ?_, ?_⟩
  · refine mer_all (p := fun m => m.1 < 9223372036854775808 ∧ lN m.2 ≤ max L K) (fun m h => ⟨h.1, by omega⟩) (fun x y h1 h2 _ => ⟨h1.1, ?_⟩) (fun m hm => ⟨(ha.2.1 m hm).1, by have := (ha.2.1 m hm).2; omega⟩) (fun m hm => ⟨(hb.2.1 m hm).1, by have := (hb.2.1 m hm).2; omega⟩)
    have := lN_add x.2 y.2
    show lN (x.2 + y.2) ≤ _
    have e1 := h1.2
    have e2 := h2.2
    omega
  · have := lN_add a.2 b.2
    have h1 := ha.2.2
    have h2 := hb.2.2
    show lN (a.2 + b.2) ≤ _
    omega
theorem Bd_sc {N L : Nat} {a : Fm} (ha : Bd N L a) (c : Int) : Bd N (L + lN c) (scF a c) := by
  unfold scF; split
  · exact Bd_zero
  · refine ⟨by show (scM c a.1).length ≤ N; unfold scM; rw [List.length_map]; exact ha.1, fun m hm => ?_, ?_⟩
    · obtain ⟨x, hx, rfl⟩ := List.mem_map.1 hm
      have := lN_mul x.2 c
      have h := ha.2.1 x hx
      exact ⟨h.1, by show lN (x.2 * c) ≤ _; omega⟩
    · have := lN_mul a.2 c
      have h := ha.2.2
      show lN (a.2 * c) ≤ _; omega
/-- So few parts in memory, of so many limbs. -/
def BL (N L : Nat) (l : LL) : Prop := l.1.length ≤ N ∧ (∀ m ∈ l.1, (-9223372036854775808 ≤ m.1 ∧ m.1 < 9223372036854775808) ∧ m.2.2.length ≤ L) ∧ l.2.2.length ≤ L
theorem Bd_lv {N L : Nat} {l : LL} (h : BL N L l) : Bd N L (lv l) := by
  unfold lv; split
  · refine ⟨by show (l.1.map dM).length ≤ N; rw [List.length_map]; exact h.1, fun m hm => ?_, Nat.le_trans (lN_iv _ _) h.2.2⟩
    obtain ⟨x, hx, rfl⟩ := List.mem_map.1 hm
    have h1 := h.2.1 x hx
    exact ⟨by show x.1.toNat < _; omega, Nat.le_trans (lN_iv _ _) h1.2⟩
  · exact Bd_zero
theorem BL_enc {N L : Nat} {f : Fm} (h : Bd N L f) : BL N L (encL f) := by
  refine ⟨by show (f.1.map eMn).length ≤ N; rw [List.length_map]; exact h.1, fun m hm => ?_, h.2.2⟩
  obtain ⟨x, hx, rfl⟩ := List.mem_map.1 hm
  have h1 := h.2.1 x hx
  refine ⟨?_, h1.2⟩
  show -9223372036854775808 ≤ (x.1 : Int) ∧ (x.1 : Int) < 9223372036854775808
  omega
/-- What is known of any form in memory is known of a form as it is kept. -/
theorem l_of_raw {P : Program} {fn : FuncId} {r : Fm → TV} {N L : Nat} {f : Fm} (hw : WF f) (hb : Bd N L f) (h : ∀ l : LL, BL N L l → PCall P fn [gL l] (r (lv l))) : PCall P fn [eF f] (r f) := by
  have := h (encL f) (BL_enc hb)
  rwa [lv_enc hw, gL_encL] at this
theorem l_of_raw2 {P : Program} {fn : FuncId} {r : Fm → Fm → TV} {N L : Nat} {f g : Fm} (hw : WF f) (hw' : WF g) (hb : Bd N L f) (hb' : Bd N L g) (h : ∀ l k : LL, BL N L l → BL N L k → PCall P fn [gL l, gL k] (r (lv l) (lv k))) : PCall P fn [eF f, eF g] (r f g) := by
  have := h (encL f) (encL g) (BL_enc hb) (BL_enc hb')
  rwa [lv_enc hw, lv_enc hw', gL_encL, gL_encL] at this
end Go.Proofs.YtfgejnedaijjiaaGreat
namespace Go.Proofs.YtfgejnedaijjiaaGreat
open Go Go.Abs
set_option maxHeartbeats 4000000
attribute [go_sem] cM cMn
theorem fz_Fm {H : Heap} {a b c : C} {x y z : T} (h1 : FzC H a x) (h2 : FzC H b y) (h3 : FzC H c z) : FzA H (.agg [a, b, c]) (.agg [x, y, z]) := fz_agg3 h1 h2 h3
theorem eF_zero : eF ([], 0) = .agg [eL cMn [], .lit (.bool false), eN []] := by
  show TV.agg [_, _, eN (dig (0 : Int).natAbs)] = _
  rw [show (0 : Int).natAbs = 0 from rfl, dig_zero]; rfl
set_option maxRecDepth 100000 in
theorem l_Is (l : LL) (hl : l.1.length < 1000000000) (hb : ∀ m ∈ l.1, m.2.2.length < 1000000) (hk : l.2.2.length < 1000000) : PCall Tryz.prog 162 [gL l] (tB (decide (IsL l))) := by
  refine pcall_of_wpA mixed Tryz.call162 Tryz.func162 rfl Tryz.ntmps162 Tryz.results162 (by simp) (by decide) ?_
  have hK := w_Is l.2.1 l.2.2 (by omega)
  simp only [go_sem]
  refine loop_inv (fun p : Nat × Int => stL 35 [(1, .one (.ptr 1 0)), (3, litI .i64 p.2), (7, .one (.t (eL cM l.1))), (8, litI .i64 l.1.length), (9, litI .i64 p.1)] [(1, [.t (eL cM l.1), .t (.lit (.bool l.2.1)), .t (eN l.2.2)])]) (fun p => p.1 ≤ l.1.length ∧ (IsM (-1) l.1 ↔ IsM p.2 (l.1.drop p.1))) (fun p => l.1.length - p.1) (0, -1) ?_ ⟨Nat.zero_le _, by rw [List.drop_zero]⟩ ?_
  · refine gstep_list rfl ?_ ?_ rfl rfl <;> simp only [go_sem] <;> simp
  · rintro ⟨i, n⟩ ⟨hi, hiff⟩
    simp only at hi hiff
    simp only [go_sem]
    refine CondR_if (fun hlt => ?_) (fun hge => ?_)
    · have hlt' : i < l.1.length := by omega
      rw [List.drop_eq_getElem_cons hlt'] at hiff
      have hel : elemD cM l.1 i = cM l.1[i] := elemD_lt hlt'
      have hm := hb _ (List.getElem_mem hlt')
      have h1 := w_Is l.1[i].2.1 l.1[i].2.2 (by omega)
      have h2 := w_Sign l.1[i].2.1 l.1[i].2.2 (by omega)
      generalize l.1[i] = m at *
      simp only [go_sem, hel, hlt]
      refine ⟨by omega, ?_⟩
      by_cases c1 : m.1 ≤ n
      · have e : decide (IsL l) = false := decide_eq_false fun h => by have := (hiff.1 h.1).1; omega
        rw [e]
        simp only [go_sem, c1]
        try rfl
      · simp only [go_sem, c1]
        refine call_pure h1 rfl ?_
        by_cases c2 : IsI m.2.1 m.2.2
        · simp only [go_sem, c2]
          refine call_pure h2 rfl ?_
          by_cases c3 : iv m.2.1 m.2.2 = 0
          · have e : decide (IsL l) = false := decide_eq_false fun h => (hiff.1 h.1).2.2.1 c3
            rw [e, c3]
            have e0 : (0 : Int).sign = 0 := rfl
            simp only [go_sem, e0]
            try rfl
          · have hne := sign_ne c3
            simp only [go_sem, hne]
            refine ⟨(i + 1, m.1), ⟨hlt', ?_⟩, (by show l.1.length - (i + 1) < l.1.length - i; omega), ?_⟩
            · rw [hiff]
              exact ⟨fun h => h.2.2.2, fun h => ⟨by omega, c2, c3, h⟩⟩
            · refine gstep_list rfl ?_ ?_ rfl rfl <;> ((try simp only [go_sem]); (try simp (disch := omega) only [wrap_i64, wrap_u64, wrap_u32, elemD_lt]); (try simp only [go_sem]); (try simp (disch := omega) only [wrap_i64, wrap_u64, wrap_u32, elemD_lt]); (try simp only [go_sem])) <;> simp
        · have e : decide (IsL l) = false := decide_eq_false fun h => c2 (hiff.1 h.1).2.1
          rw [e]
          simp only [go_sem, c2]
          try rfl
    · obtain rfl : i = l.1.length := by omega
      rw [List.drop_length] at hiff
      have hM : IsM (-1) l.1 := hiff.2 trivial
      have e : decide (IsL l) = decide (IsI l.2.1 l.2.2) := decide_eq_decide.2 ⟨fun h => h.2, fun h => ⟨hM, h⟩⟩
      rw [e]
      simp only [go_sem]
      refine call_pure hK rfl ?_
      simp only [go_sem]
set_option maxRecDepth 100000 in
theorem l_held (l : LL) (hl : l.1.length < 1000000000) (hb : ∀ m ∈ l.1, m.2.2.length < 1000000) (hk : l.2.2.length < 1000000) : PCall Tryz.prog 143 [gL l] (eF (lv l)) := by
  refine pcall_of_wpA mixed Tryz.call143 Tryz.func143 rfl Tryz.ntmps143 Tryz.results143 (by simp) (by decide) ?_
  have h := l_Is l hl hb hk
  by_cases c : IsL l
  · rw [← eF_lv c]
    simp only [go_sem]
    refine call_pure h rfl ?_
    simp only [go_sem, c]
    exact fz_agg3 .t .t .t
  · rw [show lv l = ([], 0) from if_neg c]
    simp only [go_sem]
    refine call_pure h rfl ?_
    simp only [go_sem, c]
    rw [eF_zero]
    exact fz_agg3 .weak .t .weak
end Go.Proofs.YtfgejnedaijjiaaGreat
namespace Go.Proofs.YtfgejnedaijjiaaGreat
open Go Go.Abs
set_option maxHeartbeats 8000000
set_option maxRecDepth 100000 in
theorem l_two (a b : Fm) (ha : Bd 100000000 100000 a) (hb : Bd 100000000 100000 b) : PCall Tryz.prog 164 [eF a, eF b] (eF (addF a b)) := by
  refine pcall_of_wpA mixed Tryz.call164 Tryz.func164 rfl Tryz.ntmps164 Tryz.results164 (by simp) (by decide) ?_
  have hk := w_Add_e a.2 b.2 (by have := ha.2.2; omega) (by have := hb.2.2; omega)
  simp only [go_sem]
  refine call_pure hk rfl ?_
  simp only [go_sem]
  refine regA_by 0 rfl ?_
  simp only [go_sem]
  refine loop_inv (fun p : List Mn × List Mn × List Mn => stL 110 [(4, .one (.ptr 4 0)), (5, .one (.ptr 5 0)), (6, .one (.t (eL cMn p.1))), (7, .one (.t (eL cMn p.2.1)))]
      (accE 1000 cMn p.2.2 ++ [(4, [.t (.seq (some true) []), .t (.lit (.bool false)), .t (.seq (some true) [])]), (5, [accC 1000 3 p.2.2, .t (.lit (.bool (decide (a.2 + b.2 < 0)))), .t (eN (dig (a.2 + b.2).natAbs))])]))
    (fun p => p.2.2 ++ mer p.1 p.2.1 = mer a.1 b.1 ∧ p.2.2.length + p.1.length + p.2.1.length ≤ 200000000 ∧ (∀ m ∈ p.1, m.1 < 9223372036854775808 ∧ lN m.2 ≤ 100000) ∧ (∀ m ∈ p.2.1, m.1 < 9223372036854775808 ∧ lN m.2 ≤ 100000)) (fun p => p.1.length + p.2.1.length) (a.1, b.1, []) ?_ ⟨rfl, by have h1 := ha.1; have h2 := hb.1; simp only [List.length_nil]; omega, ha.2.1, hb.2.1⟩ ?_
  · (refine gstep_list rfl ?_ ?_ ?_ ?_ <;> (try simp only [go_sem, tail_one]) <;> (try simp))
  · rintro ⟨x, y, acc⟩ ⟨hinv, hlen, hx, hy⟩
    simp only at hinv hlen hx hy ⊢
    cases x with
    | nil =>
      cases y with
      | nil =>
        rw [mer_nil_left, List.append_nil] at hinv
        simp only [go_sem]
        have e : eF (addF a b) = .agg [eL cMn acc, .lit (.bool (decide (a.2 + b.2 < 0))), eN (dig (a.2 + b.2).natAbs)] := by rw [hinv]; rfl
        rw [e]
        refine fz_agg3 (fz_acc cMn_len ?_) .t .t
        by_cases h : acc = []
        · exact .inl h
        · right
          show (if (1000 : Nat) = 4 then _ else _) = _
          cases acc with
          | nil => exact absurd rfl h
          | cons z zs => rfl
      | cons v y =>
        simp only [go_sem]
        refine regA_by 2 rfl ?_
        simp only [go_sem]
        refine regA_by 2 rfl ?_
        simp only [go_sem]
        refine regA_by 2 rfl ?_
        simp only [go_sem]
        refine opA_app_acc (sz := 3) (bytes := 40) (by simp only [go_sem, AppTy] <;> decide) cMn_len acc [v] (b := 1000) (by simp only [go_sem] <;> rfl) (by simp only [go_sem] <;> rfl) (by simp only [go_sem] <;> rfl) rfl (by simp) (by simp only [List.length_cons, List.length_nil] at *; omega) (by decide) ?_
        simp only [go_sem]
        refine ⟨Nat.le_refl _, ([], y, acc ++ [v]), ⟨by rw [mer_nil_left] at hinv ⊢; rw [← hinv]; simp, by simp only [List.length_append, List.length_cons, List.length_nil] at *; omega, hx, (fun m hm => hy m (List.mem_cons_of_mem _ hm))⟩, (by simp only [List.length_cons, List.length_nil]; omega), ?_⟩
        (refine gstep_list rfl ?_ ?_ ?_ ?_ <;> (try simp only [go_sem, tail_one]) <;> (try simp))
    | cons u x =>
      cases y with
      | nil =>
        simp only [go_sem]
        refine regA_by 2 rfl ?_
        simp only [go_sem]
        refine regA_by 2 rfl ?_
        simp only [go_sem]
        refine opA_app_acc (sz := 3) (bytes := 40) (by simp only [go_sem, AppTy] <;> decide) cMn_len acc [u] (b := 1000) (by simp only [go_sem] <;> rfl) (by simp only [go_sem] <;> rfl) (by simp only [go_sem] <;> rfl) rfl (by simp) (by simp only [List.length_cons, List.length_nil] at *; omega) (by decide) ?_
        simp only [go_sem]
        refine ⟨Nat.le_refl _, (x, [], acc ++ [u]), ⟨by rw [mer_nil_right] at hinv ⊢; rw [← hinv]; simp, by simp only [List.length_append, List.length_cons, List.length_nil] at *; omega, (fun m hm => hx m (List.mem_cons_of_mem _ hm)), hy⟩, (by simp only [List.length_cons, List.length_nil]; omega), ?_⟩
        (refine gstep_list rfl ?_ ?_ ?_ ?_ <;> (try simp only [go_sem, tail_one]) <;> (try simp))
      | cons v y =>
        rw [mer_cons] at hinv
        have hxu := hx u (List.mem_cons_self ..)
        have hyv := hy v (List.mem_cons_self ..)
        by_cases c1 : u.1 < v.1
        · rw [if_pos c1] at hinv
          have c1' : ((u.1 : Int) < (v.1 : Int)) = True := eq_true (by omega)
          simp only [go_sem, c1']
          refine regA_by 2 rfl ?_
          simp only [go_sem, c1']
          refine regA_by 2 rfl ?_
          simp only [go_sem, c1']
          refine opA_app_acc (sz := 3) (bytes := 40) (by simp only [go_sem, AppTy] <;> decide) cMn_len acc [u] (b := 1000) (by simp only [go_sem] <;> rfl) (by simp only [go_sem] <;> rfl) (by simp only [go_sem] <;> rfl) rfl (by simp) (by simp only [List.length_cons, List.length_nil] at *; omega) (by decide) ?_
          simp only [go_sem, c1']
          refine ⟨Nat.le_refl _, (x, v :: y, acc ++ [u]), ⟨by rw [← hinv]; simp, by simp only [List.length_append, List.length_cons, List.length_nil] at *; omega, (fun m hm => hx m (List.mem_cons_of_mem _ hm)), hy⟩, (by simp only [List.length_cons, List.length_nil]; omega), ?_⟩
          (refine gstep_list rfl ?_ ?_ ?_ ?_ <;> (try simp only [go_sem, tail_one]) <;> (try simp))
        · rw [if_neg c1] at hinv
          have c1' : ((u.1 : Int) < (v.1 : Int)) = False := eq_false (by omega)
          by_cases c2 : v.1 < u.1
          · rw [if_pos c2] at hinv
            have c2' : ((v.1 : Int) < (u.1 : Int)) = True := eq_true (by omega)
            simp only [go_sem, c1', c2']
            refine regA_by 2 rfl ?_
            simp only [go_sem, c1', c2']
            refine regA_by 2 rfl ?_
            simp only [go_sem, c1', c2']
            refine regA_by 2 rfl ?_
            simp only [go_sem, c1', c2']
            refine opA_app_acc (sz := 3) (bytes := 40) (by simp only [go_sem, AppTy] <;> decide) cMn_len acc [v] (b := 1000) (by simp only [go_sem] <;> rfl) (by simp only [go_sem] <;> rfl) (by simp only [go_sem] <;> rfl) rfl (by simp) (by simp only [List.length_cons, List.length_nil] at *; omega) (by decide) ?_
            simp only [go_sem, c1', c2']
            refine ⟨Nat.le_refl _, (u :: x, y, acc ++ [v]), ⟨by rw [← hinv]; simp, by simp only [List.length_append, List.length_cons, List.length_nil] at *; omega, hx, (fun m hm => hy m (List.mem_cons_of_mem _ hm))⟩, (by simp only [List.length_cons, List.length_nil]; omega), ?_⟩
            (refine gstep_list rfl ?_ ?_ ?_ ?_ <;> (try simp only [go_sem, tail_one]) <;> (try simp))
          · rw [if_neg c2] at hinv
            have c2' : ((v.1 : Int) < (u.1 : Int)) = False := eq_false (by omega)
            have h1 := w_Add_e u.2 v.2 (by omega) (by omega)
            have hl := lN_add u.2 v.2
            have h2 := w_Sign_e (u.2 + v.2) (by omega)
            simp only [go_sem, c1', c2']
            refine regA_by 2 rfl ?_
            simp only [go_sem, c1', c2']
            refine regA_by 2 rfl ?_
            simp only [go_sem, c1', c2']
            refine regA_by 0 rfl ?_
            simp only [go_sem]
            refine call_pure h1 rfl ?_
            simp only [go_sem]
            refine call_pure h2 rfl ?_
            by_cases c3 : u.2 + v.2 = 0
            · rw [if_pos c3] at hinv
              have e0 : (0 : Int).sign = 0 := rfl
              rw [c3]
              simp only [go_sem, e0]
              refine regA_by 2 rfl ?_
              simp only [go_sem]
              refine ⟨Nat.le_refl _, Nat.le_refl _, (x, y, acc), ⟨hinv, by simp only [List.length_cons] at *; omega, (fun m hm => hx m (List.mem_cons_of_mem _ hm)), (fun m hm => hy m (List.mem_cons_of_mem _ hm))⟩, (by simp only [List.length_cons]; omega), ?_⟩
              (refine gstep_list rfl ?_ ?_ ?_ ?_ <;> (try simp only [go_sem, tail_one]) <;> (try simp))
            · rw [if_neg c3] at hinv
              have hne := sign_ne c3
              simp only [go_sem, hne]
              refine regA_by 2 rfl ?_
              simp only [go_sem]
              refine opA_app_acc (sz := 3) (bytes := 40) (by simp only [go_sem, AppTy] <;> decide) cMn_len acc [(u.1, u.2 + v.2)] (b := 1000) (by simp only [go_sem] <;> rfl) (by simp only [go_sem] <;> rfl) (by simp only [go_sem] <;> rfl) rfl (by simp) (by simp only [List.length_cons, List.length_nil] at *; omega) (by decide) ?_
              simp only [go_sem]
              refine regA_by 2 rfl ?_
              simp only [go_sem]
              refine ⟨Nat.le_refl _, Nat.le_refl _, (x, y, acc ++ [(u.1, u.2 + v.2)]), ⟨by rw [← hinv]; simp, by simp only [List.length_append, List.length_cons, List.length_nil] at *; omega, (fun m hm => hx m (List.mem_cons_of_mem _ hm)), (fun m hm => hy m (List.mem_cons_of_mem _ hm))⟩, (by simp only [List.length_cons]; omega), ?_⟩
              (refine gstep_list rfl ?_ ?_ ?_ ?_ <;> (try simp only [go_sem, tail_one]) <;> (try simp))
end Go.Proofs.YtfgejnedaijjiaaGreat
namespace Go.Proofs.YtfgejnedaijjiaaGreat
open Go Go.Abs
set_option maxHeartbeats 8000000
theorem l_held_e (f : Fm) (hw : WF f) (hb : Bd 900000000 900000 f) : PCall Tryz.prog 143 [eF f] (eF f) :=
  l_of_raw (r := eF) hw hb fun l hl => l_held l (by have := hl.1; omega) (fun m hm => by have := (hl.2.1 m hm).2; omega) (by have := hl.2.2; omega)
/-- A sum of forms. -/
def sumF (l : List Fm) : Fm := l.foldl addF ([], 0)
theorem sumF_snoc (l : List Fm) (f : Fm) : sumF (l ++ [f]) = addF (sumF l) f := by unfold sumF; rw [List.foldl_append]; rfl
theorem WF_sum {l : List Fm} (h : ∀ f ∈ l, WF f) : WF (sumF l) := by
  unfold sumF
  suffices ∀ (g : Fm), WF g → WF (l.foldl addF g) from this _ trivial
  induction l with
  | nil => intro g hg; exact hg
  | cons f l ih => intro g hg; exact ih (fun f hf => h f (List.mem_cons_of_mem _ hf)) _ (WF_add hg (h f (List.mem_cons_self ..)))
theorem Bd_sumF {N L : Nat} : ∀ {l : List Fm}, (∀ f ∈ l, Bd N L f) → Bd (l.length * N) (L + l.length) (sumF l) := by
  intro l
  suffices ∀ (l : List Fm) (M K : Nat) (g : Fm), L ≤ K → Bd M K g → (∀ f ∈ l, Bd N L f) → Bd (M + l.length * N) (K + l.length) (l.foldl addF g) from
    fun h => (this l 0 L _ (Nat.le_refl _) Bd_zero h).mono (by omega) (Nat.le_refl _)
  intro l
  induction l with
  | nil => intro M K g _ hg _; exact hg.mono (by omega) (by omega)
  | cons f l ih =>
    intro M K g hK hg h
    refine (ih (M + N) (K + 1) _ (by omega) ((Bd_add hg (h f (List.mem_cons_self ..))).mono (Nat.le_refl _) (by omega)) (fun f hf => h f (List.mem_cons_of_mem _ hf))).mono ?_ ?_
    · simp only [List.length_cons, Nat.add_mul]; omega
    · simp only [List.length_cons]; omega
attribute [go_sem] cL
theorem cL_len (l : LL) : (cL l).length = 3 := rfl
theorem gL_agg (l : LL) : emb (gL l) = .agg ((cL l).map .t) := rfl
set_option maxRecDepth 100000 in
theorem l_sum (ls : List LL) (n : Nat) (hn : ls.length ≤ n) (hn' : n ≤ 10) (N L : Nat) (hN : N ≤ 1000000) (hL : L ≤ 50000) (hb : ∀ l ∈ ls, BL N L l) : PCall Tryz.prog 149 [.one (eL cL ls)] (eF (sumF (ls.map lv))) := by
  refine pcall_of_wpA mixed Tryz.call149 Tryz.func149 rfl Tryz.ntmps149 Tryz.results149 (by simp) (by decide) ?_
  simp only [go_sem]
  have hbd : ∀ k, Bd (n * N) (L + n) (sumF ((ls.take k).map lv)) := fun k =>
    (Bd_sumF (l := (ls.take k).map lv) (N := N) (L := L) fun f hf => by
      obtain ⟨l, hl, rfl⟩ := List.mem_map.1 hf
      exact Bd_lv (hb l (List.mem_of_mem_take hl))).mono (by rw [List.length_map, List.length_take]; exact Nat.mul_le_mul_right _ (by omega)) (by rw [List.length_map, List.length_take]; omega)
  have hNn : n * N ≤ 10000000 := Nat.le_trans (Nat.mul_le_mul hn' hN) (by decide)
  refine loop_inv (fun i : Nat => stL 18 [(2, .one (.ptr 2 0)), (3, .one (.ptr 3 0)), (6, .one (.t (eL cL ls))), (7, litI .i64 ls.length), (8, litI .i64 i)] [(2, [.t (.seq (some true) []), .t (.lit (.bool false)), .t (.seq (some true) [])]), (3, (cF (sumF ((ls.take i).map lv))).map .t)]) (fun i => i ≤ ls.length) (fun i => ls.length - i) 0 ?_ (Nat.zero_le _) ?_
  · have e0 : (cF (sumF ((ls.take 0).map lv))).map C.t = [.t (eL cMn []), .t (.lit (.bool false)), .t (eN [])] := by
      rw [List.take_zero]
      show [C.t (eL cMn []), C.t (T.lit (Value.bool (decide ((0 : Int) < 0)))), C.t (eN (dig (0 : Int).natAbs))] = _
      rw [show (0 : Int).natAbs = 0 from rfl, dig_zero]; rfl
    rw [e0]
    refine GStep.trans (gstep_weakH 3 (cs := [.t (.seq (some true) []), .t (.lit (.bool false)), .t (.seq (some true) [])]) (by simp only [go_sem]) (.cons .seq (.cons .refl (.cons .seq .nil)))) ?_
    refine gstep_list rfl ?_ ?_ rfl rfl <;> simp only [go_sem] <;> (try simp) <;> (try exact ⟨rfl, rfl⟩)
  · intro i hi
    simp only [go_sem]
    refine CondR_if (fun hlt => ?_) (fun hge => ?_)
    · have hlt' : i < ls.length := by omega
      have hel : elemD cL ls i = cL ls[i] := elemD_lt hlt'
      have hm := hb _ (List.getElem_mem hlt')
      have h1 := l_held ls[i] (by have := hm.1; omega) (fun m h => by have := (hm.2.1 m h).2; omega) (by have := hm.2.2; omega)
      have h2 := l_two (sumF ((ls.take i).map lv)) (lv ls[i]) ((hbd i).mono (by omega) (by omega)) ((Bd_lv hm).mono (by omega) (by omega))
      have e : addF (sumF ((ls.take i).map lv)) (lv ls[i]) = sumF ((ls.take (i + 1)).map lv) := by rw [take_snoc hlt', List.map_append, ← sumF_snoc]; rfl
      rw [e] at h2
      generalize ls[i] = m at *
      generalize sumF ((ls.take i).map lv) = g at *
      simp only [go_sem, hel, hlt]
      refine ⟨by omega, ?_⟩
      refine regA_by 0 rfl ?_
      simp only [go_sem]
      refine call_pure h1 rfl ?_
      simp only [go_sem]
      refine call_pure h2 rfl ?_
      simp only [go_sem]
      refine ⟨i + 1, hlt', (by show ls.length - (i + 1) < ls.length - i; omega), ?_⟩
      (refine gstep_list rfl ?_ ?_ ?_ ?_ <;> (try simp only [go_sem, tail_one, wrap_i64 (n := (i : Int) + 1) (by omega) (by omega)]) <;> (try simp))
    · obtain rfl : i = ls.length := by omega
      rw [List.take_length]
      simp only [go_sem]
      exact fz_agg3 .t .t .t
end Go.Proofs.YtfgejnedaijjiaaGreat
namespace Go.Proofs.YtfgejnedaijjiaaGreat
open Go Go.Abs
set_option maxHeartbeats 8000000
theorem lv_list2 (a b : LL) : sumF ([a, b].map lv) = addF (lv a) (lv b) := by
  show addF (addF ([], 0) (lv a)) (lv b) = _; rw [add_zero_left]
theorem lv_list3 (a b c : LL) : sumF ([a, b, c].map lv) = addF (addF (lv a) (lv b)) (lv c) := by
  show addF (addF (addF ([], 0) (lv a)) (lv b)) (lv c) = _; rw [add_zero_left]
theorem lv_list1 (a : LL) : sumF ([a].map lv) = lv a := by
  show addF ([], 0) (lv a) = _; rw [add_zero_left]
set_option maxRecDepth 100000 in
theorem l_Add (a b : LL) {N L : Nat} (hN : N ≤ 1000000) (hL : L ≤ 50000) (ha : BL N L a) (hb : BL N L b) : PCall Tryz.prog 114 [gL a, gL b] (eF (addF (lv a) (lv b))) := by
  refine pcall_of_wpA mixed Tryz.call114 Tryz.func114 rfl Tryz.ntmps114 Tryz.results114 (by simp) (by decide) ?_
  have h := l_sum [a, b] 2 (by simp) (by decide) N L hN hL (fun l hl => by
    rcases List.mem_cons.1 hl with rfl | hl
    · exact ha
    · obtain rfl := List.mem_singleton.1 hl; exact hb)
  rw [lv_list2] at h
  simp only [go_sem]
  refine opA_buildT (by simp only [go_sem] <;> decide) ?_
  simp only [go_sem]
  refine call_fz (tvs' := [.one (.seq (some false) [cL a, cL b])]) h rfl (.cons fzW .nil) ?_
  simp only [go_sem]
  exact fz_agg3 .t .t .t
theorem l_Add_e (f g : Fm) {N L : Nat} (hN : N ≤ 1000000) (hL : L ≤ 50000) (wf : WF f) (wg : WF g) (hf : Bd N L f) (hg : Bd N L g) : PCall Tryz.prog 114 [eF f, eF g] (eF (addF f g)) :=
  l_of_raw2 (r := fun f g => eF (addF f g)) wf wg hf hg fun l k hl hk => l_Add l k hN hL hl hk
set_option maxRecDepth 100000 in
theorem l_Const (s : Bool) (a : List Nat) (ha : a.length < 1000000) : PCall Tryz.prog 129 [gI s a] (eF (constF (iv s a))) := by
  refine pcall_of_wpA mixed Tryz.call129 Tryz.func129 rfl Tryz.ntmps129 Tryz.results129 (by simp) (by decide) ?_
  have h := w_Add_0 s a ha
  simp only [go_sem]
  ((repeat (refine regA_by 0 rfl ?_; simp only [go_sem])); refine call_pure (h) rfl ?_; simp only [go_sem]; (repeat (refine regA_by 0 rfl ?_; simp only [go_sem])))
  exact fz_agg3 .weak .t .t
theorem l_Const_e (k : Int) (hk : lN k < 1000000) : PCall Tryz.prog 129 [eI k] (eF (constF k)) := by
  have := l_Const (decide (k < 0)) (dig k.natAbs) hk; rwa [iv_eI] at this
set_option maxRecDepth 100000 in
theorem l_Const_0 : PCall Tryz.prog 129 [gI0] (eF (constF 0)) := by
  have := l_Const false [] (by simp)
  rw [show iv false [] = 0 by decide] at this
  exact this.fz (.cons (fz_agg2 .t .weak) .nil)
set_option maxRecDepth 100000 in
theorem l_Var (v : Int) (h1 : -9223372036854775808 ≤ v) (h2 : v < 9223372036854775808) : PCall Tryz.prog 127 [tI .i64 v] (eF (varF v.toNat)) := by
  refine pcall_of_wpA mixed Tryz.call127 Tryz.func127 rfl Tryz.ntmps127 Tryz.results127 (by simp) (by decide) ?_
  have h := w_Of_e 1 (by decide) (by decide)
  obtain ⟨u1, hu1⟩ : ∃ c : Int, c = 1 := ⟨_, rfl⟩
  have e : eF (varF v.toNat) = .agg [.seq none [[.lit (.int .i64 (v.toNat : Int)), .lit (.bool (decide (u1 < 0))), eN (dig u1.natAbs)]], .lit (.bool (decide ((0 : Int) < 0))), eN (dig (0 : Int).natAbs)] := by rw [hu1]; rfl
  have e2 : dig (0 : Int).natAbs = [] := dig_zero
  rw [e, e2]
  have h : PCall Tryz.prog 91 [tI .i64 1] (eI u1) := by rw [hu1]; exact h
  clear hu1
  simp only [go_sem]
  refine opA_max rfl (by simp only [go_sem] <;> rfl) (by simp only [go_sem] <;> rfl) (Nat.le_refl _) ?_
  have e3 : (if (0 : Int) > v then (0 : Int) else v) = (v.toNat : Int) := by split <;> omega
  simp only [go_sem, e3]
  ((repeat (refine regA_by 0 rfl ?_; simp only [go_sem])); refine call_pure (h) rfl ?_; simp only [go_sem]; (repeat (refine regA_by 0 rfl ?_; simp only [go_sem])))
  exact fz_agg3 .weak .t .weak
end Go.Proofs.YtfgejnedaijjiaaGreat
namespace Go.Proofs.YtfgejnedaijjiaaGreat
open Go Go.Abs
set_option maxHeartbeats 8000000
theorem scM_take {c : Int} {l : List Mn} {i : Nat} (h : i < l.length) : (scM c l).take (i + 1) = (scM c l).take i ++ [(l[i].1, l[i].2 * c)] := by
  have h' : i < (scM c l).length := by unfold scM; rwa [List.length_map]
  rw [take_snoc h']; congr 2; simp only [scM, List.getElem_map]
theorem scM_len {c : Int} {l : List Mn} : (scM c l).length = l.length := by unfold scM; rw [List.length_map]
theorem scF_ne {a : Fm} {c : Int} (h : c ≠ 0) : scF a c = (scM c a.1, a.2 * c) := by unfold scF; rw [if_neg h]
theorem scF_eq0 {a : Fm} : scF a 0 = ([], 0) := by unfold scF; rw [if_pos rfl]
set_option maxRecDepth 100000 in
theorem l_Scale (a : LL) (s : Bool) (c : List Nat) {N L : Nat} (hN : N ≤ 1000000) (hL : L ≤ 900000) (ha : BL N L a) (hc : c.length < 1000000) : PCall Tryz.prog 126 [gL a, gI s c] (eF (scF (lv a) (iv s c))) := by
  refine pcall_of_wpA mixed Tryz.call126 Tryz.func126 rfl Tryz.ntmps126 Tryz.results126 (by simp) (by decide) ?_
  have h1 := l_held a (by have := ha.1; omega) (fun m hm => by have := (ha.2.1 m hm).2; omega) (by have := ha.2.2; omega)
  have h2 := w_Sign s c (by omega)
  have hbd := Bd_lv ha
  generalize lv a = f at *
  simp only [go_sem]
  refine call_pure h1 rfl ?_
  simp only [go_sem]
  refine call_pure h2 rfl ?_
  by_cases hz : iv s c = 0
  · have e0 : (0 : Int).sign = 0 := rfl
    rw [hz, scF_eq0, eF_zero]
    simp only [go_sem, e0]
    exact fz_agg3 .weak .t .weak
  · have hne := sign_ne hz
    rw [scF_ne hz]
    have hlc := lN_iv s c
    have mul : ∀ x : Int, lN x ≤ L → PCall Tryz.prog 119 [eI x, gI s c] (eI (x * iv s c)) := fun x hx => by
      have := w_Mul (decide (x < 0)) (dig x.natAbs) s c (by unfold lN at hx; omega) (by omega)
      rwa [iv_eI] at this
    have h3 := mul f.2 hbd.2.2
    generalize iv s c = k at *
    simp only [go_sem, hne]
    refine call_pure h3 rfl ?_
    simp only [go_sem]
    refine loop_inv (fun i : Nat => stL 40 [(3, .one (.ptr 3 0)), (4, .one (.ptr 4 0)), (5, .one (.ptr 5 0)), (20, .one (.t (eL cMn f.1))), (21, litI .i64 f.1.length), (22, litI .i64 i)]
        (accE 1000 cMn ((scM k f.1).take i) ++ [(3, [.t (.lit (.bool s)), .t (eN c)]), (4, [.t (.seq (some true) []), .t (.lit (.bool false)), .t (.seq (some true) [])]), (5, [accC 1000 3 ((scM k f.1).take i), .t (.lit (.bool (decide (f.2 * k < 0)))), .t (eN (dig (f.2 * k).natAbs))])]))
      (fun i => i ≤ f.1.length) (fun i => f.1.length - i) 0 ?_ (Nat.zero_le _) ?_
    · rw [List.take_zero]
      (refine gstep_list rfl ?_ ?_ ?_ ?_ <;> (try simp only [go_sem, tail_one]) <;> (try simp))
    · intro i hi
      simp only [go_sem]
      refine CondR_if (fun hlt => ?_) (fun hge => ?_)
      · have hlt' : i < f.1.length := by omega
        have hel : elemD cMn f.1 i = cMn f.1[i] := elemD_lt hlt'
        have hm := mul _ (hbd.2.1 _ (List.getElem_mem hlt')).2
        have hv := (hbd.2.1 _ (List.getElem_mem hlt')).1
        have hnx := scM_take (c := k) hlt'
        have hal : ((scM k f.1).take i).length = i := by rw [List.length_take, scM_len]; omega
        have hlen := hbd.1
        generalize f.1[i] = m at *
        generalize (scM k f.1).take i = acc at *
        simp only [go_sem, hel, hlt]
        refine ⟨by omega, ?_⟩
        refine regA_by 0 rfl ?_
        simp only [go_sem]
        refine call_pure hm rfl ?_
        simp only [go_sem]
        refine opA_app_acc (sz := 3) (bytes := 40) (by simp only [go_sem, AppTy] <;> decide) cMn_len acc [(m.1, m.2 * k)] (b := 1000) (by simp only [go_sem] <;> rfl) (by simp only [go_sem] <;> rfl) (by simp only [go_sem] <;> rfl) rfl (by simp) (by simp only [List.length_cons, List.length_nil] at *; omega) (by decide) ?_
        simp only [go_sem]
        refine ⟨i + 1, hlt', (by show f.1.length - (i + 1) < f.1.length - i; omega), ?_⟩
        (refine gstep_list rfl ?_ ?_ ?_ ?_ <;> (try simp only [go_sem, tail_one, hnx, wrap_i64 (n := (i : Int) + 1) (by omega) (by omega)]) <;> (try simp))
      · obtain rfl : i = f.1.length := by omega
        rw [show f.1.length = (scM k f.1).length from scM_len.symm, List.take_length]
        simp only [go_sem]
        refine fz_agg3 (fz_acc cMn_len ?_) .t .t
        cases h : scM k f.1 with
        | nil => exact .inl rfl
        | cons z zs => right; rfl
theorem l_Scale_e (f : Fm) (c : Int) {N L : Nat} (hN : N ≤ 1000000) (hL : L ≤ 900000) (wf : WF f) (hf : Bd N L f) (hc : lN c < 1000000) : PCall Tryz.prog 126 [eF f, eI c] (eF (scF f c)) := by
  have := l_Scale (encL f) (decide (c < 0)) (dig c.natAbs) hN hL (BL_enc hf) hc
  rwa [lv_enc wf, iv_eI, gL_encL] at this
theorem l_Scale_r (a : LL) (c : Int) {N L : Nat} (hN : N ≤ 1000000) (hL : L ≤ 900000) (ha : BL N L a) (hc : lN c < 1000000) : PCall Tryz.prog 126 [gL a, eI c] (eF (scF (lv a) c)) := by
  have := l_Scale a (decide (c < 0)) (dig c.natAbs) hN hL ha hc
  rwa [iv_eI] at this
set_option maxRecDepth 100000 in
theorem l_Sub (a b : LL) {N L : Nat} (hN : N ≤ 1000000) (hL : L ≤ 40000) (ha : BL N L a) (hb : BL N L b) : PCall Tryz.prog 128 [gL a, gL b] (eF (addF (lv a) (scF (lv b) (-1)))) := by
  refine pcall_of_wpA mixed Tryz.call128 Tryz.func128 rfl Tryz.ntmps128 Tryz.results128 (by simp) (by decide) ?_
  have hl1 : lN (-1) ≤ 1 := lN_of (by decide)
  have ho := w_Of_e (-1) (by decide) (by decide)
  have hs := l_Scale_r b (-1) hN (by omega) hb (by omega)
  have hbs : BL N (L + 1) (encL (scF (lv b) (-1))) := BL_enc ((Bd_sc (Bd_lv hb) (-1)).mono (Nat.le_refl _) (by omega))
  have h := l_sum [a, encL (scF (lv b) (-1))] 2 (by simp) (by decide) N (L + 1) hN (by omega) (fun l hl => by
    rcases List.mem_cons.1 hl with rfl | hl
    · exact ⟨ha.1, fun m hm => ⟨(ha.2.1 m hm).1, by have := (ha.2.1 m hm).2; omega⟩, by have := ha.2.2; omega⟩
    · obtain rfl := List.mem_singleton.1 hl; exact hbs)
  rw [lv_list2, lv_enc (WF_sc (WF_lv b) _)] at h
  have e : eL cL [a, encL (scF (lv b) (-1))] = .seq none [cL a, cF (scF (lv b) (-1))] := by
    show T.seq none [cL a, [eL cM ((scF (lv b) (-1)).1.map eMn), _, _]] = _; rw [eL_eMn]; rfl
  rw [e] at h
  generalize scF (lv b) (-1) = g at *
  obtain ⟨u1, hu1⟩ : ∃ c : Int, c = -1 := ⟨_, rfl⟩
  have ho : PCall Tryz.prog 91 [tI .i64 (-1)] (eI u1) := by rw [hu1]; exact ho
  rw [← hu1] at hs
  clear hu1
  simp only [go_sem]
  ((repeat (refine regA_by 0 rfl ?_; simp only [go_sem])); refine call_pure (ho) rfl ?_; simp only [go_sem]; (repeat (refine regA_by 0 rfl ?_; simp only [go_sem])); refine call_pure (hs) rfl ?_; simp only [go_sem]; (repeat (refine regA_by 0 rfl ?_; simp only [go_sem])))
  refine opA_buildT (by simp only [go_sem] <;> decide) ?_
  simp only [go_sem]
  refine call_fz (tvs' := [.one (.seq (some false) [cL a, cF g])]) h rfl (.cons fzW .nil) ?_
  simp only [go_sem]
  exact fz_agg3 .t .t .t
/-- How often a variable is in a form. -/
def coI : List Mn → Int → Int
  | [], _ => 0
  | m :: l, v => if (m.1 : Int) = v then m.2 else coI l v
theorem coI_nat (l : List Mn) (v : Nat) : coI l v = coM l v := by
  induction l with
  | nil => rfl
  | cons m l ih => unfold coI coM; rw [ih]; split <;> split <;> first | rfl | omega
theorem coI_neg (l : List Mn) {v : Int} (h : v < 0) : coI l v = 0 := by
  induction l with
  | nil => rfl
  | cons m l ih => unfold coI; rw [if_neg (by omega)]; exact ih
theorem coI_mem (l : List Mn) (v : Int) : coI l v = 0 ∨ ∃ m ∈ l, coI l v = m.2 := by
  induction l with
  | nil => exact .inl rfl
  | cons m l ih =>
    unfold coI; split
    · exact .inr ⟨m, List.mem_cons_self .., rfl⟩
    · rcases ih with h | ⟨x, hx, h⟩
      · exact .inl h
      · exact .inr ⟨x, List.mem_cons_of_mem _ hx, h⟩
theorem lN_coI {N L : Nat} {f : Fm} (h : Bd N L f) (v : Int) : lN (coI f.1 v) ≤ L := by
  rcases coI_mem f.1 v with e | ⟨m, hm, e⟩
  · rw [e, lN_zero]; exact Nat.zero_le _
  · rw [e]; exact (h.2.1 m hm).2
end Go.Proofs.YtfgejnedaijjiaaGreat
namespace Go.Proofs.YtfgejnedaijjiaaGreat
open Go Go.Abs
set_option maxHeartbeats 8000000
/-- A form with another one in a variable's place. -/
def putF (a : Fm) (v : Int) (b : Fm) : Fm := if coI a.1 v = 0 then a else addF (addF a (scF (varF v.toNat) (-(coI a.1 v)))) (scF b (coI a.1 v))
/-- The point that a slice of integers tells. -/
def ptX (x : List (Bool × List Nat)) (v : Nat) : Int := match x[v]? with | some q => iv q.1 q.2 | none => 0
theorem atM_snoc (l : List Mn) (m : Mn) (p : Nat → Int) : atM (l ++ [m]) p = atM l p + m.2 * p m.1 := by
  induction l with
  | nil => show m.2 * p m.1 + 0 = 0 + _; omega
  | cons x l ih => show x.2 * p x.1 + atM (l ++ [m]) p = x.2 * p x.1 + atM l p + _; rw [ih]; omega
theorem lN_at {N L K : Nat} {f : Fm} (h : Bd N L f) {p : Nat → Int} (hp : ∀ v, lN (p v) ≤ K) (i : Nat) : lN (f.2 + atM (f.1.take i) p) ≤ L + K + i := by
  induction i with
  | zero => rw [List.take_zero]; show lN (f.2 + 0) ≤ _; rw [Int.add_zero]; have := h.2.2; omega
  | succ i ih =>
    by_cases hi : i < f.1.length
    · rw [take_snoc hi, atM_snoc, ← Int.add_assoc]
      have h1 := lN_add (f.2 + atM (f.1.take i) p) (f.1[i].2 * p f.1[i].1)
      have h2 := lN_mul f.1[i].2 (p f.1[i].1)
      have h3 := (h.2.1 _ (List.getElem_mem hi)).2
      have h4 := hp f.1[i].1
      omega
    · rw [List.take_of_length_le (by omega)] at ih ⊢
      omega
theorem lN_ptX {x : List (Bool × List Nat)} {K : Nat} (h : ∀ q ∈ x, q.2.length ≤ K) (v : Nat) : lN (ptX x v) ≤ K := by
  unfold ptX
  split
  · rename_i q hq
    exact Nat.le_trans (lN_iv _ _) (h q (List.mem_of_getElem? hq))
  · rw [lN_zero]; exact Nat.zero_le _
/-- What divides all that is ahead of a form's variables. -/
def gM (l : List Mn) : Nat := gAll (l.map fun m => (decide (m.2 < 0), dig m.2.natAbs))
theorem gM_snoc (l : List Mn) (m : Mn) : gM (l ++ [m]) = Int.gcd (gM l : Int) m.2 := by
  unfold gM
  rw [List.map_append]
  show gAll (_ ++ [_]) = _
  rw [gAll_snoc, iv_eI, Nat.gcd_comm]; rfl
theorem gM_len {N L : Nat} {f : Fm} (h : Bd N L f) (i : Nat) : (dig (gM (f.1.take i))).length ≤ L := gAll_len _ fun p hp => by
  obtain ⟨m, hm, rfl⟩ := List.mem_map.1 hp
  exact (h.2.1 m (List.mem_of_mem_take hm)).2
def cIm (m : Mn) : List T := [.lit (.bool (decide (m.2 < 0))), eN (dig m.2.natAbs)]
theorem cIm_len (m : Mn) : (cIm m).length = 2 := rfl
theorem eL_cIm (l : List Mn) : eL cI (l.map fun m => (decide (m.2 < 0), dig m.2.natAbs)) = eL cIm l := by unfold eL; rw [List.map_map]; rfl
set_option maxRecDepth 100000 in
theorem l_Gcd (a : LL) {N L : Nat} (hN : N ≤ 1000000) (hL : L ≤ 90000) (ha : BL N L a) : PCall Tryz.prog 140 [gL a] (eI (gM (lv a).1 : Int)) := by
  refine pcall_of_wpA mixed Tryz.call140 Tryz.func140 rfl Tryz.ntmps140 Tryz.results140 (by simp) (by decide) ?_
  have h1 := l_held a (by have := ha.1; omega) (fun m hm => by have := (ha.2.1 m hm).2; omega) (by have := ha.2.2; omega)
  have hbd := Bd_lv ha
  generalize lv a = f at *
  have hlen := hbd.1
  have h2 := g_All (f.1.map fun m => (decide (m.2 < 0), dig m.2.natAbs)) (by rw [List.length_map]; omega) (fun p hp => by obtain ⟨m, hm, rfl⟩ := List.mem_map.1 hp; have := (hbd.2.1 m hm).2; unfold lN at this; show (dig m.2.natAbs).length < _; omega)
  change PCall _ _ [.one (eL cI _)] (eI (gM f.1 : Int)) at h2
  rw [eL_cIm] at h2
  simp only [go_sem]
  refine call_pure h1 rfl ?_
  simp only [go_sem]
  refine loop_inv (fun i : Nat => stL 22 [(2, .one (.ptr 2 0)), (3, accA 1000 2 (f.1.take i)), (8, .one (.t (eL cMn f.1))), (9, litI .i64 f.1.length), (10, litI .i64 i)]
      (accE 1000 cIm (f.1.take i) ++ [(2, [.t (.lit (.bool false)), .t (.seq (some true) [])])])) (fun i => i ≤ f.1.length) (fun i => f.1.length - i) 0 ?_ (Nat.zero_le _) ?_
  · rw [List.take_zero]
    (refine gstep_list rfl ?_ ?_ ?_ ?_ <;> (try simp only [go_sem, tail_one]) <;> (try simp))
  · intro i hi
    simp only [go_sem]
    refine CondR_if (fun hlt => ?_) (fun hge => ?_)
    · have hlt' : i < f.1.length := by omega
      have hel : elemD cMn f.1 i = cMn f.1[i] := elemD_lt hlt'
      have hal : (f.1.take i).length = i := by rw [List.length_take]; omega
      have hnx := take_snoc hlt'
      generalize f.1[i] = m at *
      generalize f.1.take i = acc at *
      simp only [go_sem, hel, hlt]
      refine ⟨by omega, ?_⟩
      refine opA_app_acc (sz := 2) (bytes := 32) (by simp only [go_sem, AppTy] <;> decide) cIm_len acc [m] (b := 1000) (by simp only [go_sem] <;> rfl) (by simp only [go_sem] <;> rfl) (by simp only [go_sem] <;> rfl) rfl (by simp) (by simp only [List.length_cons, List.length_nil] at *; omega) (by decide) ?_
      simp only [go_sem]
      refine ⟨i + 1, hlt', (by show f.1.length - (i + 1) < f.1.length - i; omega), ?_⟩
      (refine gstep_list rfl ?_ ?_ ?_ ?_ <;> (try simp only [go_sem, tail_one, hnx, wrap_i64 (n := (i : Int) + 1) (by omega) (by omega)]) <;> (try simp))
    · obtain rfl : i = f.1.length := by omega
      rw [List.take_length]
      cases hf : f.1 with
      | nil =>
        rw [hf] at h2
        simp only [go_sem]
        refine call_fz (tvs' := [.one (.seq (some true) [])]) h2 rfl (.cons fzW .nil) ?_
        simp only [go_sem]
        exact fz_agg2 .t .t
      | cons z zs =>
        rw [hf] at h2
        simp only [go_sem]
        refine call_frz 1000 2 (zs.length + 1) rfl h2 (by simp only [go_sem] <;> rfl) (treeOf_L (f := cIm) (xs := z :: zs) cIm_len) ?_ ?_
        · simp only [go_sem, accC_cons] <;> rfl
        · simp only [go_sem]
          exact fz_agg2 .t .t
end Go.Proofs.YtfgejnedaijjiaaGreat
