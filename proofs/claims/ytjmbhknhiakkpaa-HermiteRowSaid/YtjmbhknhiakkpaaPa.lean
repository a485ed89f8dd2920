/- At every input the call answers true and leaves its arguments as they were; no conditions. -/
import Derived.Test.YtjmbhknhiakkpaaQz
import Derived.Test.YtjmbhknhiakkpaaMf
import Derived.Test.YtjmbhknhiakkpaaQb
import Derived.Test.YtjmbhknhiakkpaaQa
set_option linter.unusedSimpArgs false
set_option linter.unusedVariables false
namespace Go.Proofs.Ytjmbhknhiakkpaa
open Go Go.Abs
set_option maxHeartbeats 1000000
/-! ### Forms: what is in memory, what they are worth -/
/-- A part as it is kept. -/
def cMn (m : Mn) : List T := [.lit (.int .i64 m.1), .lit (.bool (decide (m.2 < 0))), eN (dig m.2.natAbs)]
theorem cMn_len (m : Mn) : (cMn m).length = 3 := rfl
def eMn (m : Mn) : MM := ((m.1 : Int), decide (m.2 < 0), dig m.2.natAbs)
abbrev cF (f : Fm) : List T := [eL cMn f.1, .lit (.bool (decide (f.2 < 0))), eN (dig f.2.natAbs)]
/-- A form as it is kept. -/
abbrev eF (f : Fm) : TV := .agg (cF f)
def encL (f : Fm) : LL := (f.1.map eMn, decide (f.2 < 0), dig f.2.natAbs)
theorem eL_eMn (l : List Mn) : eL cM (l.map eMn) = eL cMn l := by unfold eL; rw [List.map_map]; rfl
theorem gL_encL (f : Fm) : gL (encL f) = eF f := by
  show TV.agg [eL cM (f.1.map eMn), _, _] = _; rw [eL_eMn]; rfl
def IsM : Int → List MM → Prop
  | _, [] => True
  | n, m :: l => n < m.1 ∧ IsI m.2.1 m.2.2 ∧ iv m.2.1 m.2.2 ≠ 0 ∧ IsM m.1 l
instance decIsM : ∀ (n : Int) (l : List MM), Decidable (IsM n l)
  | _, [] => isTrue trivial
  | n, m :: l => by
    have := decIsM m.1 l
    unfold IsM; exact inferInstance
def IsL (l : LL) : Prop := IsM (-1) l.1 ∧ IsI l.2.1 l.2.2
instance (l : LL) : Decidable (IsL l) := by unfold IsL; exact inferInstance
def dM (m : MM) : Mn := (m.1.toNat, iv m.2.1 m.2.2)
/-- What a form in memory is worth: 0 what isn't one. -/
def lv (l : LL) : Fm := if IsL l then (l.1.map dM, iv l.2.1 l.2.2) else ([], 0)
theorem IsM.back : ∀ {l : List MM} {n : Int}, -1 ≤ n → IsM n l → (l.map dM).map eMn = l ∧ WM (n + 1).toNat (l.map dM) := by
  intro l
  induction l with
  | nil => intros; exact ⟨rfl, trivial⟩
  | cons m l ih =>
    intro n hn h
    obtain ⟨h1, h2, h3, h4⟩ := h
    obtain ⟨i1, i2⟩ := ih (by omega) h4
    have e := eI_iv h2
    have e1 : m.2.1 = decide (iv m.2.1 m.2.2 < 0) := by injection e with e; injection e with e1 _; injection e1 with e1; injection e1
    have e2 : m.2.2 = dig (iv m.2.1 m.2.2).natAbs := by
      have hN : IsN m.2.2 := h2.1
      injection e with e; injection e with _ e2; injection e2 with e2 _
      injection e2 with _ e2
      exact (List.map_inj_right (fun x y e => by injection e with e _; injection e with e; injection e with _ e; omega)).1 e2
    refine ⟨?_, ?_⟩
    · rw [List.map_cons, List.map_cons, i1]
      congr 1
      show (((m.1.toNat : Nat) : Int), decide (iv m.2.1 m.2.2 < 0), dig (iv m.2.1 m.2.2).natAbs) = m
      rw [← e1, ← e2, show ((m.1.toNat : Nat) : Int) = m.1 by omega]
    · refine ⟨?_, h3, ?_⟩
      · show (n + 1).toNat ≤ m.1.toNat; omega
      · show WM (m.1.toNat + 1) _
        rwa [show m.1.toNat + 1 = (m.1 + 1).toNat by omega]
theorem eF_lv {l : LL} (h : IsL l) : gL l = eF (lv l) := by
  rw [← gL_encL]
  unfold lv
  rw [if_pos h]
  obtain ⟨i1, _⟩ := IsM.back (Int.le_refl _) h.1
  have e := eI_iv h.2
  injection e with e; injection e with e1 e2; injection e1 with e1; injection e1 with e1; injection e2 with e2 _
  injection e2 with _ e2
  have e2 := (List.map_inj_right (fun x y e => by injection e with e _; injection e with e; injection e with _ e; omega)).1 e2
  have : l = encL (l.1.map dM, iv l.2.1 l.2.2) := Prod.ext i1.symm (Prod.ext e1 e2)
  rw [← this]
theorem WF_lv (l : LL) : WF (lv l) := by
  unfold lv; split
  · rename_i h; exact (IsM.back (Int.le_refl _) h.1).2
  · trivial
theorem IsM_enc : ∀ {l : List Mn} {n : Nat} {k : Int}, k < (n : Int) → WM n l → IsM k (l.map eMn) := by
  intro l
  induction l with
  | nil => intros; trivial
  | cons m l ih =>
    intro n k hk h
    refine ⟨?_, IsI_eI _, ?_, ih (n := m.1 + 1) ?_ h.2.2⟩
    · show k < (m.1 : Int); have := h.1; omega
    · show iv (decide (m.2 < 0)) (dig m.2.natAbs) ≠ 0; rw [iv_eI]; exact h.2.1
    · show (m.1 : Int) < ((m.1 + 1 : Nat) : Int); omega
theorem IsL_enc {f : Fm} (h : WF f) : IsL (encL f) := ⟨IsM_enc (n := 0) (by omega) h, IsI_eI _⟩
theorem dM_eMn (m : Mn) : dM (eMn m) = m := by
  show (((m.1 : Int)).toNat, iv (decide (m.2 < 0)) (dig m.2.natAbs)) = m
  rw [iv_eI]; rfl
theorem lv_enc {f : Fm} (h : WF f) : lv (encL f) = f := by
  unfold lv; rw [if_pos (IsL_enc h)]
  show ((f.1.map eMn).map dM, iv (decide (f.2 < 0)) (dig f.2.natAbs)) = f
  rw [iv_eI, List.map_map, show dM ∘ eMn = id from funext dM_eMn, List.map_id]
theorem eF_inj {f g : Fm} : eF f = eF g ↔ f = g := by
  refine ⟨fun h => ?_, fun h => by rw [h]⟩
  have i1 : ∀ {u v : List Nat}, eN u = eN v → u = v := fun {u v} e => by
    injection e with e1 e2
    exact (List.map_inj_right (fun x y e => by injection e with e _; injection e with e; injection e with _ e; omega)).1 e2
  injection h with h; injection h with h1 h; injection h with h2 h; injection h with h3 _
  injection h2 with h2; injection h2 with h2
  injection h1 with _ h1
  refine Prod.ext ((List.map_inj_right (fun x y e => ?_)).1 h1) (eI_inj.1 ⟨h2, i1 h3⟩)
  injection e with e1 e; injection e with e2 e; injection e with e3 _
  injection e1 with e1; injection e1 with _ e1
  injection e2 with e2; injection e2 with e2
  exact Prod.ext (by omega) (eI_inj.1 ⟨e2, i1 e3⟩)

/-! ### How great forms are -/
/-- So many parts at most, of so many limbs. -/
def Bd (N L : Nat) (f : Fm) : Prop := f.1.length ≤ N ∧ (∀ m ∈ f.1, m.1 < 9223372036854775808 ∧ lN m.2 ≤ L) ∧ lN f.2 ≤ L
theorem Bd.mono {N L N' L' : Nat} {f : Fm} (h : Bd N L f) (h1 : N ≤ N') (h2 : L ≤ L') : Bd N' L' f :=
  ⟨Nat.le_trans h.1 h1, fun m hm => ⟨(h.2.1 m hm).1, Nat.le_trans (h.2.1 m hm).2 h2⟩, Nat.le_trans h.2.2 h2⟩
theorem Bd_zero {N L : Nat} : Bd N L ([], 0) := ⟨Nat.zero_le _, (fun m hm => by cases hm), (by show lN 0 ≤ L; rw [lN_zero]; exact Nat.zero_le _)⟩
theorem Bd_const {N : Nat} (k : Int) : Bd N (lN k) (constF k) := ⟨Nat.zero_le _, (fun m hm => by cases hm), Nat.le_refl _⟩
theorem Bd_var {v : Nat} (h : v < 9223372036854775808) : Bd 1 1 (varF v) := ⟨Nat.le_refl _, (fun m hm => by obtain rfl := List.mem_singleton.1 hm; exact ⟨h, lN_one⟩), (by show lN 0 ≤ 1; rw [lN_zero]; omega)⟩
theorem Bd_add {N L M K : Nat} {a b : Fm} (ha : Bd N L a) (hb : Bd M K b) : Bd (N + M) (max L K + 1) (addF a b) := by
  refine ⟨Nat.le_trans mer_length (Nat.add_le_add ha.1 hb.1), ?_, ?_⟩
  · refine mer_all (p := fun m => m.1 < 9223372036854775808 ∧ lN m.2 ≤ max L K) (fun m h => ⟨h.1, by omega⟩) (fun x y h1 h2 _ => ⟨h1.1, ?_⟩) (fun m hm => ⟨(ha.2.1 m hm).1, by have := (ha.2.1 m hm).2; omega⟩) (fun m hm => ⟨(hb.2.1 m hm).1, by have := (hb.2.1 m hm).2; omega⟩)
    have := lN_add x.2 y.2
    show lN (x.2 + y.2) ≤ _
    have e1 := h1.2
    have e2 := h2.2
    omega
  · have := lN_add a.2 b.2
    have h1 := ha.2.2
    have h2 := hb.2.2
    show lN (a.2 + b.2) ≤ _
    omega
theorem Bd_sc {N L : Nat} {a : Fm} (ha : Bd N L a) (c : Int) : Bd N (L + lN c) (scF a c) := by
  unfold scF; split
  · exact Bd_zero
  · refine ⟨by show (scM c a.1).length ≤ N; unfold scM; rw [List.length_map]; exact ha.1, fun m hm => ?_, ?_⟩
    · obtain ⟨x, hx, rfl⟩ := List.mem_map.1 hm
      have := lN_mul x.2 c
      have h := ha.2.1 x hx
      exact ⟨h.1, by show lN (x.2 * c) ≤ _; omega⟩
    · have := lN_mul a.2 c
      have h := ha.2.2
      show lN (a.2 * c) ≤ _; omega
/-- So few parts in memory, of so many limbs. -/
def BL (N L : Nat) (l : LL) : Prop := l.1.length ≤ N ∧ (∀ m ∈ l.1, (-9223372036854775808 ≤ m.1 ∧ m.1 < 9223372036854775808) ∧ m.2.2.length ≤ L) ∧ l.2.2.length ≤ L
theorem Bd_lv {N L : Nat} {l : LL} (h : BL N L l) : Bd N L (lv l) := by
  unfold lv; split
  · refine ⟨by show (l.1.map dM).length ≤ N; rw [List.length_map]; exact h.1, fun m hm => ?_, Nat.le_trans (lN_iv _ _) h.2.2⟩
    obtain ⟨x, hx, rfl⟩ := List.mem_map.1 hm
    have h1 := h.2.1 x hx
    exact ⟨by show x.1.toNat < _; omega, Nat.le_trans (lN_iv _ _) h1.2⟩
  · exact Bd_zero
theorem BL_enc {N L : Nat} {f : Fm} (h : Bd N L f) : BL N L (encL f) := by
  refine ⟨by show (f.1.map eMn).length ≤ N; rw [List.length_map]; exact h.1, fun m hm => ?_, h.2.2⟩
  obtain ⟨x, hx, rfl⟩ := List.mem_map.1 hm
  have h1 := h.2.1 x hx
  refine ⟨?_, h1.2⟩
  show -9223372036854775808 ≤ (x.1 : Int) ∧ (x.1 : Int) < 9223372036854775808
  omega
/-- What is known of any form in memory is known of a form as it is kept. -/
theorem l_of_raw {P : Program} {fn : FuncId} {r : Fm → TV} {N L : Nat} {f : Fm} (hw : WF f) (hb : Bd N L f) (h : ∀ l : LL, BL N L l → PCall P fn [gL l] (r (lv l))) : PCall P fn [eF f] (r f) := by
  have := h (encL f) (BL_enc hb)
  rwa [lv_enc hw, gL_encL] at this
theorem l_of_raw2 {P : Program} {fn : FuncId} {r : Fm → Fm → TV} {N L : Nat} {f g : Fm} (hw : WF f) (hw' : WF g) (hb : Bd N L f) (hb' : Bd N L g) (h : ∀ l k : LL, BL N L l → BL N L k → PCall P fn [gL l, gL k] (r (lv l) (lv k))) : PCall P fn [eF f, eF g] (r f g) := by
  have := h (encL f) (encL g) (BL_enc hb) (BL_enc hb')
  rwa [lv_enc hw, lv_enc hw', gL_encL, gL_encL] at this
end Go.Proofs.Ytjmbhknhiakkpaa
namespace Go.Proofs.Ytjmbhknhiakkpaa
open Go Go.Abs
set_option maxHeartbeats 4000000
attribute [go_sem] cM cMn
theorem fz_Fm {H : Heap} {a b c : C} {x y z : T} (h1 : FzC H a x) (h2 : FzC H b y) (h3 : FzC H c z) : FzA H (.agg [a, b, c]) (.agg [x, y, z]) := fz_agg3 h1 h2 h3
theorem eF_zero : eF ([], 0) = .agg [eL cMn [], .lit (.bool false), eN []] := by
  show TV.agg [_, _, eN (dig (0 : Int).natAbs)] = _
  rw [show (0 : Int).natAbs = 0 from rfl, dig_zero]; rfl
end Go.Proofs.Ytjmbhknhiakkpaa
namespace Go.Proofs.Ytjmbhknhiakkpaa
open Go Go.Abs
set_option maxHeartbeats 8000000
end Go.Proofs.Ytjmbhknhiakkpaa
namespace Go.Proofs.Ytjmbhknhiakkpaa
open Go Go.Abs
set_option maxHeartbeats 8000000
/-- A sum of forms. -/
def sumF (l : List Fm) : Fm := l.foldl addF ([], 0)
theorem sumF_snoc (l : List Fm) (f : Fm) : sumF (l ++ [f]) = addF (sumF l) f := by unfold sumF; rw [List.foldl_append]; rfl
theorem WF_sum {l : List Fm} (h : ∀ f ∈ l, WF f) : WF (sumF l) := by
  unfold sumF
  suffices ∀ (g : Fm), WF g → WF (l.foldl addF g) from this _ trivial
  induction l with
  | nil => intro g hg; exact hg
  | cons f l ih => intro g hg; exact ih (fun f hf => h f (List.mem_cons_of_mem _ hf)) _ (WF_add hg (h f (List.mem_cons_self ..)))
theorem Bd_sumF {N L : Nat} : ∀ {l : List Fm}, (∀ f ∈ l, Bd N L f) → Bd (l.length * N) (L + l.length) (sumF l) := by
  intro l
  suffices ∀ (l : List Fm) (M K : Nat) (g : Fm), L ≤ K → Bd M K g → (∀ f ∈ l, Bd N L f) → Bd (M + l.length * N) (K + l.length) (l.foldl addF g) from
    fun h => (this l 0 L _ (Nat.le_refl _) Bd_zero h).mono (by omega) (Nat.le_refl _)
  intro l
  induction l with
  | nil => intro M K g _ hg _; exact hg.mono (by omega) (by omega)
  | cons f l ih =>
    intro M K g hK hg h
    refine (ih (M + N) (K + 1) _ (by omega) ((Bd_add hg (h f (List.mem_cons_self ..))).mono (Nat.le_refl _) (by omega)) (fun f hf => h f (List.mem_cons_of_mem _ hf))).mono ?_ ?_
    · simp only [List.length_cons, Nat.add_mul]; omega
    · simp only [List.length_cons]; omega
attribute [go_sem] cL
theorem cL_len (l : LL) : (cL l).length = 3 := rfl
theorem gL_agg (l : LL) : emb (gL l) = .agg ((cL l).map .t) := rfl
end Go.Proofs.Ytjmbhknhiakkpaa
namespace Go.Proofs.Ytjmbhknhiakkpaa
open Go Go.Abs
set_option maxHeartbeats 8000000
theorem lv_list2 (a b : LL) : sumF ([a, b].map lv) = addF (lv a) (lv b) := by
  show addF (addF ([], 0) (lv a)) (lv b) = _; rw [add_zero_left]
theorem lv_list3 (a b c : LL) : sumF ([a, b, c].map lv) = addF (addF (lv a) (lv b)) (lv c) := by
  show addF (addF (addF ([], 0) (lv a)) (lv b)) (lv c) = _; rw [add_zero_left]
theorem lv_list1 (a : LL) : sumF ([a].map lv) = lv a := by
  show addF ([], 0) (lv a) = _; rw [add_zero_left]
end Go.Proofs.Ytjmbhknhiakkpaa
namespace Go.Proofs.Ytjmbhknhiakkpaa
open Go Go.Abs
set_option maxHeartbeats 8000000
theorem scM_take {c : Int} {l : List Mn} {i : Nat} (h : i < l.length) : (scM c l).take (i + 1) = (scM c l).take i ++ [(l[i].1, l[i].2 * c)] := by
  have h' : i < (scM c l).length := by unfold scM; rwa [List.length_map]
  rw [take_snoc h']; congr 2; simp only [scM, List.getElem_map]
theorem scM_len {c : Int} {l : List Mn} : (scM c l).length = l.length := by unfold scM; rw [List.length_map]
theorem scF_ne {a : Fm} {c : Int} (h : c ≠ 0) : scF a c = (scM c a.1, a.2 * c) := by unfold scF; rw [if_neg h]
theorem scF_eq0 {a : Fm} : scF a 0 = ([], 0) := by unfold scF; rw [if_pos rfl]
/-- How often a variable is in a form. -/
def coI : List Mn → Int → Int
  | [], _ => 0
  | m :: l, v => if (m.1 : Int) = v then m.2 else coI l v
theorem coI_nat (l : List Mn) (v : Nat) : coI l v = coM l v := by
  induction l with
  | nil => rfl
  | cons m l ih => unfold coI coM; rw [ih]; split <;> split <;> first | rfl | omega
theorem coI_neg (l : List Mn) {v : Int} (h : v < 0) : coI l v = 0 := by
  induction l with
  | nil => rfl
  | cons m l ih => unfold coI; rw [if_neg (by omega)]; exact ih
theorem coI_mem (l : List Mn) (v : Int) : coI l v = 0 ∨ ∃ m ∈ l, coI l v = m.2 := by
  induction l with
  | nil => exact .inl rfl
  | cons m l ih =>
    unfold coI; split
    · exact .inr ⟨m, List.mem_cons_self .., rfl⟩
    · rcases ih with h | ⟨x, hx, h⟩
      · exact .inl h
      · exact .inr ⟨x, List.mem_cons_of_mem _ hx, h⟩
theorem lN_coI {N L : Nat} {f : Fm} (h : Bd N L f) (v : Int) : lN (coI f.1 v) ≤ L := by
  rcases coI_mem f.1 v with e | ⟨m, hm, e⟩
  · rw [e, lN_zero]; exact Nat.zero_le _
  · rw [e]; exact (h.2.1 m hm).2
end Go.Proofs.Ytjmbhknhiakkpaa
namespace Go.Proofs.Ytjmbhknhiakkpaa
open Go Go.Abs
set_option maxHeartbeats 8000000
/-- A form with another one in a variable's place. -/
def putF (a : Fm) (v : Int) (b : Fm) : Fm := if coI a.1 v = 0 then a else addF (addF a (scF (varF v.toNat) (-(coI a.1 v)))) (scF b (coI a.1 v))
/-- The point that a slice of integers tells. -/
def ptX (x : List (Bool × List Nat)) (v : Nat) : Int := match x[v]? with | some q => iv q.1 q.2 | none => 0
theorem atM_snoc (l : List Mn) (m : Mn) (p : Nat → Int) : atM (l ++ [m]) p = atM l p + m.2 * p m.1 := by
  induction l with
  | nil => show m.2 * p m.1 + 0 = 0 + _; omega
  | cons x l ih => show x.2 * p x.1 + atM (l ++ [m]) p = x.2 * p x.1 + atM l p + _; rw [ih]; omega
theorem lN_at {N L K : Nat} {f : Fm} (h : Bd N L f) {p : Nat → Int} (hp : ∀ v, lN (p v) ≤ K) (i : Nat) : lN (f.2 + atM (f.1.take i) p) ≤ L + K + i := by
  induction i with
  | zero => rw [List.take_zero]; show lN (f.2 + 0) ≤ _; rw [Int.add_zero]; have := h.2.2; omega
  | succ i ih =>
    by_cases hi : i < f.1.length
    · rw [take_snoc hi, atM_snoc, ← Int.add_assoc]
      have h1 := lN_add (f.2 + atM (f.1.take i) p) (f.1[i].2 * p f.1[i].1)
      have h2 := lN_mul f.1[i].2 (p f.1[i].1)
      have h3 := (h.2.1 _ (List.getElem_mem hi)).2
      have h4 := hp f.1[i].1
      omega
    · rw [List.take_of_length_le (by omega)] at ih ⊢
      omega
theorem lN_ptX {x : List (Bool × List Nat)} {K : Nat} (h : ∀ q ∈ x, q.2.length ≤ K) (v : Nat) : lN (ptX x v) ≤ K := by
  unfold ptX
  split
  · rename_i q hq
    exact Nat.le_trans (lN_iv _ _) (h q (List.mem_of_getElem? hq))
  · rw [lN_zero]; exact Nat.zero_le _
/-- What divides all that is ahead of a form's variables. -/
def gM (l : List Mn) : Nat := gAll (l.map fun m => (decide (m.2 < 0), dig m.2.natAbs))
theorem gM_snoc (l : List Mn) (m : Mn) : gM (l ++ [m]) = Int.gcd (gM l : Int) m.2 := by
  unfold gM
  rw [List.map_append]
  show gAll (_ ++ [_]) = _
  rw [gAll_snoc, iv_eI, Nat.gcd_comm]; rfl
theorem gM_len {N L : Nat} {f : Fm} (h : Bd N L f) (i : Nat) : (dig (gM (f.1.take i))).length ≤ L := gAll_len _ fun p hp => by
  obtain ⟨m, hm, rfl⟩ := List.mem_map.1 hp
  exact (h.2.1 m (List.mem_of_mem_take hm)).2
def cIm (m : Mn) : List T := [.lit (.bool (decide (m.2 < 0))), eN (dig m.2.natAbs)]
theorem cIm_len (m : Mn) : (cIm m).length = 2 := rfl
theorem eL_cIm (l : List Mn) : eL cI (l.map fun m => (decide (m.2 < 0), dig m.2.natAbs)) = eL cIm l := by unfold eL; rw [List.map_map]; rfl
end Go.Proofs.Ytjmbhknhiakkpaa
