/- At every input the call answers true and leaves its arguments as they were; no conditions. -/
import Derived.Test.YtjmbhknhiakkpaaPc
import Derived.Test.YtjmbhknhiakkpaaPd
set_option linter.unusedSimpArgs false
set_option linter.unusedVariables false
namespace Go.Proofs.Ytjmbhknhiakkpaa
open Go Go.Abs
set_option maxHeartbeats 8000000
/-! ### Constraints -/
def nrM (g : Int) (l : List Mn) : List Mn := l.map fun m => (m.1, Int.fdiv m.2 g)
/-- A constraint in least numbers. -/
def normF (f : Fm) : Fm := if f.1 = [] then f else (nrM (gM f.1 : Int) f.1, -(Int.fdiv (-f.2) (gM f.1 : Int)))
def clF (f : Fm) : Int := if f.1 = [] then (if 0 < f.2 then 3 else 2) else 1
def notF (f : Fm) : Fm := addF (constF 1) (scF f (-1))
theorem nrM_len {g : Int} {l : List Mn} : (nrM g l).length = l.length := by unfold nrM; rw [List.length_map]
theorem nrM_take {g : Int} {l : List Mn} {i : Nat} (h : i < l.length) : (nrM g l).take (i + 1) = (nrM g l).take i ++ [(l[i].1, Int.fdiv l[i].2 g)] := by
  have h' : i < (nrM g l).length := by rwa [nrM_len]
  rw [take_snoc h']; congr 2; simp only [nrM, List.getElem_map]
end Go.Proofs.Ytjmbhknhiakkpaa
namespace Go.Proofs.Ytjmbhknhiakkpaa
open Go Go.Abs
set_option maxHeartbeats 8000000
/-! ### The reference's constraints -/
end Go.Proofs.Ytjmbhknhiakkpaa
namespace Go.Proofs.Ytjmbhknhiakkpaa
open Go Go.Abs
set_option maxHeartbeats 8000000
end Go.Proofs.Ytjmbhknhiakkpaa
namespace Go.Proofs.Ytjmbhknhiakkpaa
open Go Go.Abs
set_option maxHeartbeats 8000000
/-! ### What constraints in least numbers are -/
theorem gM_dvd {l : List Mn} : ∀ m ∈ l, (gM l : Int) ∣ m.2 := by
  suffices ∀ i, i ≤ l.length → ∀ m ∈ l.take i, (gM (l.take i) : Int) ∣ m.2 by
    have h := this l.length (Nat.le_refl _); rwa [List.take_length] at h
  intro i
  induction i with
  | zero => intro _ m hm; rw [List.take_zero] at hm; cases hm
  | succ i ih =>
    intro hi m hm
    have hlt : i < l.length := hi
    rw [take_snoc hlt] at hm ⊢
    rw [gM_snoc]
    rcases List.mem_append.1 hm with hm | hm
    · exact Int.dvd_trans (Int.gcd_dvd_left ..) (ih (by omega) m hm)
    · obtain rfl := List.mem_singleton.1 hm
      exact Int.gcd_dvd_right ..
theorem dvd_gM {l : List Mn} {d : Int} (h : ∀ m ∈ l, d ∣ m.2) : d ∣ (gM l : Int) := by
  suffices ∀ i, i ≤ l.length → d ∣ (gM (l.take i) : Int) by
    have h := this l.length (Nat.le_refl _); rwa [List.take_length] at h
  intro i
  induction i with
  | zero => intro _; rw [List.take_zero, show gM [] = 0 from rfl]; exact Int.dvd_zero d
  | succ i ih =>
    intro hi
    have hlt : i < l.length := hi
    rw [take_snoc hlt, gM_snoc]
    exact Int.dvd_coe_gcd (ih (by omega)) (h _ (List.getElem_mem hlt))
theorem gM_ne {l : List Mn} {n : Nat} (hw : WM n l) (h : l ≠ []) : gM l ≠ 0 := by
  intro e
  cases l with
  | nil => exact h rfl
  | cons m l =>
    have := gM_dvd (l := m :: l) m (List.mem_cons_self ..)
    rw [e] at this
    exact hw.2.1 (Int.zero_dvd.1 this)
theorem gM_nr {l : List Mn} (hg : gM l ≠ 0) : gM (nrM (gM l : Int) l) = 1 := by
  have hgi : (gM l : Int) ≠ 0 := by omega
  have h : (gM l : Int) * (gM (nrM (gM l : Int) l) : Int) ∣ (gM l : Int) := by
    refine dvd_gM fun m hm => ?_
    have h1 : (gM (nrM (gM l : Int) l) : Int) ∣ Int.fdiv m.2 (gM l : Int) := gM_dvd (m.1, Int.fdiv m.2 (gM l : Int)) (List.mem_map.2 ⟨m, hm, rfl⟩)
    obtain ⟨q, hq⟩ := gM_dvd m hm
    rw [hq, Int.mul_fdiv_cancel_left _ hgi] at h1
    rw [hq]
    exact Int.mul_dvd_mul_left _ h1
  obtain ⟨q, hq⟩ := h
  rw [Int.mul_assoc] at hq
  have h2 : (gM l : Int) * 1 = (gM l : Int) * ((gM (nrM (gM l : Int) l) : Int) * q) := by rw [Int.mul_one]; exact hq
  have h3 : 1 = (gM (nrM (gM l : Int) l) : Int) * q := Int.eq_of_mul_eq_mul_left hgi h2
  have h4 : (gM (nrM (gM l : Int) l) : Int) ∣ 1 := ⟨q, h3⟩
  have := Int.eq_one_of_dvd_one (by omega) h4
  omega
theorem at_nr {g : Int} (hg : g ≠ 0) (p : Nat → Int) : ∀ {l : List Mn}, (∀ m ∈ l, g ∣ m.2) → atM l p = g * atM (nrM g l) p := by
  intro l
  induction l with
  | nil => intro _; show 0 = g * 0; rw [Int.mul_zero]
  | cons m l ih =>
    intro h
    obtain ⟨q, hq⟩ := h m (List.mem_cons_self ..)
    show m.2 * p m.1 + atM l p = g * (Int.fdiv m.2 g * p m.1 + atM (nrM g l) p)
    rw [ih fun m hm => h m (List.mem_cons_of_mem _ hm), hq, Int.mul_fdiv_cancel_left _ hg, Int.mul_add, Int.mul_assoc]
theorem WM_nr {g : Int} (hg : g ≠ 0) : ∀ {l : List Mn} {n : Nat}, (∀ m ∈ l, g ∣ m.2) → WM n l → WM n (nrM g l) := by
  intro l
  induction l with
  | nil => intros; trivial
  | cons m l ih =>
    intro n h w
    obtain ⟨q, hq⟩ := h m (List.mem_cons_self ..)
    refine ⟨w.1, ?_, ih (fun m hm => h m (List.mem_cons_of_mem _ hm)) w.2.2⟩
    show Int.fdiv m.2 g ≠ 0
    rw [hq, Int.mul_fdiv_cancel_left _ hg]
    intro e
    exact w.2.1 (by rw [hq, e, Int.mul_zero])
theorem nrM_one (l : List Mn) : nrM 1 l = l := by
  unfold nrM
  rw [show (fun m : Mn => (m.1, Int.fdiv m.2 1)) = id from funext fun m => by rw [Int.fdiv_one]; rfl, List.map_id]
theorem nrM_nil {g : Int} {l : List Mn} : nrM g l = [] ↔ l = [] := by unfold nrM; exact List.map_eq_nil_iff
theorem WF_norm {f : Fm} (hf : WF f) : WF (normF f) := by
  unfold normF; split
  · exact hf
  · rename_i h; have := gM_ne hf h; exact WM_nr (by omega) gM_dvd hf
theorem norm_norm {f : Fm} (hf : WF f) : normF (normF f) = normF f := by
  by_cases h : f.1 = []
  · rw [show normF f = f from if_pos h]; exact if_pos h
  · have hg := gM_ne hf h
    have e : normF f = (nrM (gM f.1 : Int) f.1, -(Int.fdiv (-f.2) (gM f.1 : Int))) := if_neg h
    rw [e]
    unfold normF
    rw [if_neg (fun h' => h (nrM_nil.1 h')), gM_nr hg]
    show (nrM 1 _, -(Int.fdiv (- -_) 1)) = _
    rw [nrM_one, Int.fdiv_one, Int.neg_neg]
theorem cl_norm (f : Fm) : clF (normF f) = clF f := by
  by_cases h : f.1 = []
  · rw [show normF f = f from if_pos h]
  · rw [show normF f = (nrM (gM f.1 : Int) f.1, -(Int.fdiv (-f.2) (gM f.1 : Int))) from if_neg h]
    unfold clF
    rw [if_neg (fun h' => h (nrM_nil.1 h')), if_neg h]
theorem norm_holds {f : Fm} (hf : WF f) (p : Nat → Int) : atF (normF f) p ≤ 0 ↔ atF f p ≤ 0 := by
  by_cases h : f.1 = []
  · rw [show normF f = f from if_pos h]
  · have hg := gM_ne hf h
    rw [show normF f = (nrM (gM f.1 : Int) f.1, -(Int.fdiv (-f.2) (gM f.1 : Int))) from if_neg h]
    unfold atF
    rw [at_nr (l := f.1) (g := (gM f.1 : Int)) (by omega) p gM_dvd]
    show -(Int.fdiv (-f.2) (gM f.1 : Int)) + atM (nrM (gM f.1 : Int) f.1) p ≤ 0 ↔ _
    generalize atM (nrM (gM f.1 : Int) f.1) p = S
    rw [Int.fdiv_eq_ediv_of_nonneg _ (by omega)]
    have := Int.le_ediv_iff_mul_le (a := S) (b := -f.2) (c := (gM f.1 : Int)) (by omega)
    rw [Int.mul_comm S] at this
    omega
theorem at_not (f : Fm) (p : Nat → Int) : atF (notF f) p = 1 - atF f p := by
  unfold notF; rw [at_add, at_const, at_sc]; omega
theorem WF_not {f : Fm} (hf : WF f) : WF (notF f) := WF_add (WF_const _) (WF_sc hf _)
theorem Bd_not {N L : Nat} {f : Fm} (hL : 1 ≤ L) (hf : Bd N L f) : Bd N (L + 2) (notF f) := by
  have ln1 : lN (-1) ≤ 1 := lN_of (by decide)
  have := Bd_add ((Bd_const (N := 0) 1).mono (Nat.le_refl _) (show lN 1 ≤ 1 from lN_one)) (Bd_sc hf (-1))
  exact this.mono (by omega) (by omega)
theorem Bd_norm {N L : Nat} {f : Fm} (hf : Bd N L f) : Bd N (L + 1) (normF f) := by
  unfold normF; split
  · exact hf.mono (Nat.le_refl _) (by omega)
  · refine ⟨by show (nrM _ _).length ≤ N; rw [nrM_len]; exact hf.1, fun m hm => ?_, ?_⟩
    · obtain ⟨x, hx, rfl⟩ := List.mem_map.1 hm
      have h := hf.2.1 x hx
      have := lN_fdiv x.2 (gM f.1 : Int)
      exact ⟨h.1, by show lN (Int.fdiv x.2 _) ≤ _; omega⟩
    · have := lN_fdiv (-f.2) (gM f.1 : Int)
      rw [lN_neg] at this
      have h := hf.2.2
      show lN (-(Int.fdiv (-f.2) _)) ≤ _
      rw [lN_neg]; omega
theorem cl3 (f : Fm) : clF f = 1 ∨ clF f = 2 ∧ (∀ p, atF f p ≤ 0) ∨ clF f = 3 ∧ ∀ p, ¬ atF f p ≤ 0 := by
  unfold clF
  split
  · rename_i h
    have e : ∀ p, atF f p = f.2 := fun p => by unfold atF; rw [h]; exact Int.add_zero _
    split
    · exact .inr (.inr ⟨rfl, fun p => by rw [e]; omega⟩)
    · exact .inr (.inl ⟨rfl, fun p => by rw [e]; omega⟩)
  · exact .inl rfl
theorem gM_single (v : Nat) (c : Int) : (gM [(v, c)] : Int) = c.natAbs := by
  show (gM ([] ++ [(v, c)]) : Int) = _
  rw [gM_snoc, show gM [] = 0 from rfl]
  show (Int.gcd 0 c : Int) = _
  rw [Int.gcd_zero_left]
theorem norm_single (v : Nat) (c k : Int) (hc : c ≠ 0) : normF ([(v, c)], k) = ([(v, c.sign)], -(Int.fdiv (-k) c.natAbs)) := by
  unfold normF
  rw [if_neg (by simp)]
  show (nrM (gM [(v, c)] : Int) [(v, c)], -(Int.fdiv (-k) (gM [(v, c)] : Int))) = _
  rw [gM_single]
  show ([(v, Int.fdiv c c.natAbs)], _) = _
  congr 3
  rw [Int.fdiv_eq_ediv_of_nonneg _ (by omega)]
  rcases Int.lt_trichotomy c 0 with h | h | h
  · rw [Int.sign_eq_neg_one_of_neg h, show (c.natAbs : Int) = -c by omega, Int.ediv_neg, Int.ediv_self hc]
  · exact absurd h hc
  · rw [Int.sign_eq_one_of_pos h, show (c.natAbs : Int) = c by omega, Int.ediv_self hc]
end Go.Proofs.Ytjmbhknhiakkpaa
namespace Go.Proofs.Ytjmbhknhiakkpaa
open Go Go.Abs
set_option maxHeartbeats 8000000
theorem tB_iffB {P : Program} {f : FuncId} {xs : List TV} {p q : Prop} [Decidable p] [Decidable q] (h : PCall P f xs (tB (decide p))) (e : p ↔ q) : PCall P f xs (tB (decide q)) := by rwa [← decide_eq_decide.2 e]
theorem Bd_single {v : Nat} {c k : Int} {L : Nat} (hv : v < 9223372036854775808) (hc : lN c ≤ L) (hk : lN k ≤ L) : Bd 1 L ([(v, c)], k) :=
  ⟨Nat.le_refl _, (fun m hm => by obtain rfl := List.mem_singleton.1 hm; exact ⟨hv, hc⟩), hk⟩
theorem WF_single {v : Nat} {c k : Int} (hc : c ≠ 0) : WF ([(v, c)], k) := ⟨Nat.zero_le _, hc, trivial⟩
theorem at_single (v : Nat) (c k : Int) (p : Nat → Int) : atF ([(v, c)], k) p = k + c * p v := by
  show k + (c * p v + 0) = _; omega
/-- A form of one variable, as it is built. -/
abbrev litF (v c k : Int) : TV := .agg [.seq (some false) [[.lit (.int .i64 v), .lit (.bool (decide (c < 0))), eN (dig c.natAbs)]], .lit (.bool (decide (k < 0))), eN (dig k.natAbs)]
theorem litF_tw (v : Nat) (c k : Int) : TVW (litF v c k) (eF ([(v, c)], k)) := .agg (.cons .weak (.cons .refl (.cons .refl .nil)))
theorem ptX_one (c : Int) : ptX [(decide (c < 0), dig c.natAbs)] 0 = c := by
  show iv (decide (c < 0)) (dig c.natAbs) = c; exact iv_eI c
end Go.Proofs.Ytjmbhknhiakkpaa
