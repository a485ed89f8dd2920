/- At every input the call answers true and leaves its arguments as they were; no conditions. -/
import Derived.Test.YtgnfgaioeldagaaGreatQz
import Derived.Test.YtgnfgaioeldagaaGreatVh
set_option linter.unusedSimpArgs false
set_option linter.unusedVariables false
namespace Go.Proofs.YtgnfgaioeldagaaGreat
open Go Go.Abs Go.ChangeShapes Go.WideShapes Go.ChangeAt Go.RowKit
set_option maxRecDepth 100000
/-! ### Terms, structures as they read -/
abbrev MX : Nat := 9223372036854775807
theorem mx_le {n : Nat} (h : n ≤ maxLen) : n ≤ MX := Nat.le_trans h (by decide)
theorem wt_str {P : Program} {t : TypeId} {ts : List T} (ht : P.underlying t = some .string) (h : WT P t ts) : ∃ s : ByteArray, ts = [.lit (.string s)] ∧ s.size ≤ maxLen := by
  cases h with
  | bool h1 => rw [ht] at h1; cases h1
  | int h1 _ => rw [ht] at h1; cases h1
  | str h1 h2 => exact ⟨_, rfl, h2⟩
  | slice h1 _ _ _ => rw [ht] at h1; cases h1
  | struct h1 _ _ => rw [ht] at h1; cases h1
theorem wt_struct3 {P : Program} {t : TypeId} {ts : List T} {f g k : Field} (ht : P.underlying t = some (.struct #[f, g, k])) (h : WT P t ts) : ∃ a b c, ts = a ++ (b ++ c) ∧ WT P f.type a ∧ WT P g.type b ∧ WT P k.type c := by
  obtain ⟨tss, rfl, h1, h2⟩ := wt_struct ht h
  match tss, h1 with
  | [a, b, c], _ => exact ⟨a, b, c, by simp, h2 0 (by simp) (by simp), h2 1 (by simp) (by simp), h2 2 (by simp) (by simp)⟩
theorem wt_TermG {ty : TypeId} {ts : List T} (h : WT Tryz.prog ty ts) : (ty = 27 → ∃ t : Tm, ts = cT t ∧ KT t) ∧ (ty = 25 → ∃ l : List Tm, ts = [eL cT l] ∧ l.length ≤ MX ∧ ∀ t ∈ l, KT t) := by
  induction h with
  | bool h1 => exact ⟨(fun e => by subst e; rw [Tryz.underlying27] at h1; cases h1), (fun e => by subst e; rw [Tryz.underlying25] at h1; cases h1)⟩
  | int h1 _ => exact ⟨(fun e => by subst e; rw [Tryz.underlying27] at h1; cases h1), (fun e => by subst e; rw [Tryz.underlying25] at h1; cases h1)⟩
  | str h1 _ => exact ⟨(fun e => by subst e; rw [Tryz.underlying27] at h1; cases h1), (fun e => by subst e; rw [Tryz.underlying25] at h1; cases h1)⟩
  | slice h1 h2 h3 h4 ih =>
    refine ⟨(fun e => by subst e; rw [Tryz.underlying27] at h1; cases h1), fun e => ?_⟩
    subst e
    rw [Tryz.underlying25] at h1
    cases h1
    obtain ⟨ys, rfl, hy⟩ := map_of_all (f := cT) (p := KT) fun x hx => (ih x hx).1 rfl
    exact ⟨ys, rfl, mx_le (by simpa using h4), hy⟩
  | @struct t fs tss h1 h2 h3 ih =>
    refine ⟨fun e => ?_, (fun e => by subst e; rw [Tryz.underlying25] at h1; cases h1)⟩
    subst e
    rw [Tryz.underlying27] at h1
    cases h1
    match tss, h2 with
    | [a, b, c, d, e], _ =>
      obtain ⟨o, rfl, _⟩ := wt_int (P := Tryz.prog) Tryz.underlying3 (h3 0 (by simp) (by simp))
      obtain ⟨s, l, hb, hl⟩ := wt_Int (h3 1 (by simp) (by simp))
      obtain ⟨nm, hc, hn⟩ := wt_str Tryz.underlying9 (h3 2 (by simp) (by simp))
      obtain ⟨r, hd, _⟩ := wt_int (P := Tryz.prog) Tryz.underlying3 (h3 3 (by simp) (by simp))
      obtain ⟨ks, he, hk, hkt⟩ := (ih 4 (by simp) (by simp)).2 rfl
      have hb : b = _ := hb
      have hc : c = _ := hc
      have hd : d = _ := hd
      have he : e = _ := he
      subst hb hc hd he
      refine ⟨.mk o (s, l) nm r ks, ?_, (KT_eq _).2 ⟨mx_le hl, mx_le hn, hk, hkt⟩⟩
      rw [cT_eq]; rfl
theorem wtv_Term {tv : TV} (h : WTV Tryz.prog 27 tv) : ∃ t : Tm, tv = gT t ∧ KT t := by
  unfold WTV at h
  rw [Tryz.underlying27] at h
  obtain ⟨ts, rfl, h⟩ := h
  obtain ⟨t, rfl, ht⟩ := (wt_TermG h).1 rfl
  exact ⟨t, rfl, ht⟩
theorem wtv_Terms {tv : TV} (h : WTV Tryz.prog 25 tv) : ∃ l : List Tm, tv = tLT l ∧ l.length ≤ MX ∧ ∀ t ∈ l, KT t := by
  unfold WTV at h
  rw [Tryz.underlying25] at h
  obtain ⟨x, rfl, h⟩ := h
  obtain ⟨l, hl, h1, h2⟩ := (wt_TermG h).2 rfl
  cases hl
  exact ⟨l, rfl, h1, h2⟩
theorem wtv_Str {tv : TV} (h : WTV Tryz.prog 9 tv) : ∃ s : ByteArray, tv = tS s ∧ s.size ≤ MX := by
  unfold WTV at h
  rw [Tryz.underlying9] at h
  obtain ⟨x, rfl, h⟩ := h
  obtain ⟨s, hs, h1⟩ := wt_str Tryz.underlying9 h
  cases hs
  exact ⟨s, rfl, mx_le h1⟩
theorem wt_Value {ts : List T} (h : WT Tryz.prog 34 ts) : ∃ v : VR, ts = cV v ∧ v.2.2.length ≤ MX := by
  obtain ⟨x, y, rfl, h1, h2⟩ := wt_struct2 Tryz.underlying34 h
  obtain ⟨n, rfl, _⟩ := wt_int Tryz.underlying3 h1
  obtain ⟨s, a, rfl, hl⟩ := wt_Int h2
  exact ⟨(n, s, a), rfl, mx_le hl⟩
theorem wtv_Value {tv : TV} (h : WTV Tryz.prog 34 tv) : ∃ v : VR, tv = gV v ∧ v.2.2.length ≤ MX := by
  unfold WTV at h
  rw [Tryz.underlying34] at h
  obtain ⟨ts, rfl, h⟩ := h
  obtain ⟨v, rfl, hv⟩ := wt_Value h
  exact ⟨v, rfl, hv⟩
theorem wt_Values {ts : List T} (h : WT Tryz.prog 32 ts) : ∃ l : List VR, ts = [eL cV l] ∧ l.length ≤ MX := by
  obtain ⟨xs, rfl, h1, h2⟩ := wt_slice Tryz.underlying32 h
  obtain ⟨ys, rfl, _⟩ := map_of_all (f := cV) (p := fun v : VR => v.2.2.length ≤ MX) (xs := xs) fun x hx => wt_Value (h1 x hx)
  exact ⟨ys, rfl, mx_le (by simpa using h2)⟩
theorem wtv_Values {tv : TV} (h : WTV Tryz.prog 32 tv) : ∃ l : List VR, tv = tLV l ∧ l.length ≤ MX := by
  unfold WTV at h
  rw [Tryz.underlying32] at h
  obtain ⟨x, rfl, h⟩ := h
  obtain ⟨l, hl, h1⟩ := wt_Values h
  cases hl
  exact ⟨l, rfl, h1⟩
theorem wt_ints {ts : List T} (h : WT Tryz.prog 29 ts) : ∃ l : List Int, ts = [eL cInt l] ∧ l.length ≤ MX := by
  obtain ⟨xs, rfl, h1, h2⟩ := wt_slice Tryz.underlying29 h
  obtain ⟨ys, rfl, _⟩ := map_of_all (f := cInt) (p := fun _ => True) (xs := xs) fun x hx => by
    obtain ⟨n, rfl, _⟩ := wt_int Tryz.underlying3 (h1 x hx)
    exact ⟨n, rfl, trivial⟩
  exact ⟨ys, rfl, mx_le (by simpa using h2)⟩
theorem wt_Sig {ts : List T} (h : WT Tryz.prog 31 ts) : ∃ s : Sg, ts = cS s ∧ s.1.size ≤ MX ∧ s.2.1.length ≤ MX := by
  obtain ⟨x, y, z, rfl, h1, h2, h3⟩ := wt_struct3 Tryz.underlying31 h
  obtain ⟨nm, rfl, hn⟩ := wt_str Tryz.underlying9 h1
  obtain ⟨l, rfl, hl⟩ := wt_ints h2
  obtain ⟨r, rfl, _⟩ := wt_int Tryz.underlying3 h3
  exact ⟨(nm, l, r), rfl, mx_le hn, hl⟩
theorem wtv_Sig {tv : TV} (h : WTV Tryz.prog 31 tv) : ∃ s : Sg, tv = gSg s ∧ s.1.size ≤ MX ∧ s.2.1.length ≤ MX := by
  unfold WTV at h
  rw [Tryz.underlying31] at h
  obtain ⟨ts, rfl, h⟩ := h
  obtain ⟨s, rfl, hs⟩ := wt_Sig h
  exact ⟨s, rfl, hs⟩
theorem wt_Row {ts : List T} (h : WT Tryz.prog 69 ts) : ∃ r : Rw, ts = cRw r ∧ r.1.length ≤ MX := by
  obtain ⟨x, y, rfl, h1, h2⟩ := wt_struct2 Tryz.underlying69 h
  obtain ⟨l, rfl, hl⟩ := wt_Values h1
  obtain ⟨v, rfl, _⟩ := wt_Value h2
  exact ⟨(l, v), rfl, hl⟩
theorem wt_Fun {ts : List T} (h : WT Tryz.prog 66 ts) : ∃ f : Fu, ts = cFu f ∧ (f.1.1.size ≤ MX ∧ f.1.2.1.length ≤ MX ∧ f.2.1.length ≤ MX ∧ ∀ r ∈ f.2.1, r.1.length ≤ MX) := by
  obtain ⟨x, y, z, rfl, h1, h2, h3⟩ := wt_struct3 Tryz.underlying66 h
  obtain ⟨s, rfl, hs1, hs2⟩ := wt_Sig h1
  obtain ⟨xs, rfl, g1, g2⟩ := wt_slice Tryz.underlying64 h2
  obtain ⟨rs, rfl, hr⟩ := map_of_all (f := cRw) (p := fun r : Rw => r.1.length ≤ MX) (xs := xs) fun x hx => wt_Row (g1 x hx)
  obtain ⟨v, rfl, _⟩ := wt_Value h3
  exact ⟨(s, rs, v), rfl, hs1, hs2, mx_le (by simpa using g2), hr⟩
theorem wtv_Funs {tv : TV} (h : WTV Tryz.prog 28 tv) : ∃ m : List Fu, tv = tLF m ∧ KM m := by
  unfold WTV at h
  rw [Tryz.underlying28] at h
  obtain ⟨x, rfl, h⟩ := h
  obtain ⟨xs, hx, h1, h2⟩ := wt_slice Tryz.underlying28 h
  cases hx
  obtain ⟨ys, rfl, hy⟩ := map_of_all (f := cFu) (p := fun f : Fu => f.1.1.size ≤ MX ∧ f.1.2.1.length ≤ MX ∧ f.2.1.length ≤ MX ∧ ∀ r ∈ f.2.1, r.1.length ≤ MX) (xs := xs) fun x hx => wt_Fun (h1 x hx)
  exact ⟨ys, rfl, mx_le (by simpa using h2), hy⟩
/-- The types of what comes in. -/
def plainLV : List TypeId := [4, 22, 83, 24, 2, 5, 46, 3, 62, 9, 29, 34, 32, 31, 69, 64, 66, 28, 27, 25]
def plainSV (t : TypeId) : Bool := plainLV.contains t
theorem plainV_ok : ∀ t, plainSV t = true → plainAtB Tryz.prog plainSV t = true := by
  have h : plainLV.all (plainAtB Tryz.prog plainSV) = true := by kernel_rfl
  intro t ht
  exact List.all_eq_true.1 h t (by simpa [plainSV] using ht)
end Go.Proofs.YtgnfgaioeldagaaGreat
