/- At every input the call answers true and leaves its arguments as they were; no conditions. -/
import Derived.Test.YtgnfgaioeldagaaGreatQa
import Derived.Test.YtgnfgaioeldagaaGreatMd
import Derived.Test.YtgnfgaioeldagaaGreatRows
set_option linter.unusedSimpArgs false
set_option linter.unusedVariables false
namespace Go.Proofs.YtgnfgaioeldagaaGreat
open Go Go.Abs
/-! ### Linear forms in memory -/
abbrev MM := Int × Bool × List Nat
abbrev LL := List MM × Bool × List Nat
/-- A part of a form: the variable, what is ahead of it. -/
def cM (m : MM) : List T := [.lit (.int .i64 m.1), .lit (.bool m.2.1), eN m.2.2]
theorem cM_len (m : MM) : (cM m).length = 3 := rfl
abbrev cL (l : LL) : List T := [eL cM l.1, .lit (.bool l.2.1), eN l.2.2]
abbrev gL (l : LL) : TV := .agg (cL l)
/-- What a form's numbers keep to. -/
def LLok (l : LL) : Prop := l.1.length ≤ 9223372036854775807 ∧ ∀ m ∈ l.1, -9223372036854775808 ≤ m.1 ∧ m.1 < 9223372036854775808
end Go.Proofs.YtgnfgaioeldagaaGreat
namespace Go.Proofs.YtgnfgaioeldagaaGreat
open Go Go.Abs Go.ChangeShapes Go.WideShapes Go.ChangeAt Go.RowKit
set_option maxRecDepth 100000
/-! ### What the seat's types read as -/
theorem Tryz.ownK : ownKnob Tryz.prog.godebug = none := by kernel_rfl
theorem Tryz.laidOut : laidOutB Tryz.prog = true := by kernel_rfl

theorem WT.len_one {P : Program} {t : TypeId} {ts : List T} (h : WT P t ts) : ∀ {d}, P.underlying t = some d → (match d with | .struct _ => False | _ => True) → ts.length = 1 := by
  cases h with
  | struct h1 _ _ => intro d hd hn; rw [h1] at hd; cases hd; exact hn.elim
  | _ => intros; rfl
theorem wt_bool {P : Program} {t : TypeId} {ts : List T} (ht : P.underlying t = some .bool) (h : WT P t ts) : ∃ b, ts = [.lit (.bool b)] := by
  cases h with
  | bool h1 => exact ⟨_, rfl⟩
  | int h1 _ => rw [ht] at h1; cases h1
  | str h1 _ => rw [ht] at h1; cases h1
  | slice h1 _ _ _ => rw [ht] at h1; cases h1
  | struct h1 _ _ => rw [ht] at h1; cases h1
theorem wt_int {P : Program} {t : TypeId} {ts : List T} {k : IntKind} (ht : P.underlying t = some (.int k)) (h : WT P t ts) : ∃ n, ts = [.lit (.int k n)] ∧ (Lit.int k n).wf = true := by
  cases h with
  | bool h1 => rw [ht] at h1; cases h1
  | int h1 h2 => rw [ht] at h1; cases h1; exact ⟨_, rfl, h2⟩
  | str h1 _ => rw [ht] at h1; cases h1
  | slice h1 _ _ _ => rw [ht] at h1; cases h1
  | struct h1 _ _ => rw [ht] at h1; cases h1
theorem wt_slice {P : Program} {t e : TypeId} {ts : List T} (ht : P.underlying t = some (.slice e)) (h : WT P t ts) : ∃ xs : List (List T), ts = [.seq none xs] ∧ (∀ x ∈ xs, WT P e x) ∧ xs.length ≤ maxLen := by
  cases h with
  | bool h1 => rw [ht] at h1; cases h1
  | int h1 h2 => rw [ht] at h1; cases h1
  | str h1 _ => rw [ht] at h1; cases h1
  | slice h1 h2 h3 h4 => rw [ht] at h1; cases h1; exact ⟨_, rfl, h2, h4⟩
  | struct h1 _ _ => rw [ht] at h1; cases h1
theorem wt_struct {P : Program} {t : TypeId} {ts : List T} {fs : Array Field} (ht : P.underlying t = some (.struct fs)) (h : WT P t ts) : ∃ tss : List (List T), ts = tss.flatten ∧ tss.length = fs.size ∧ ∀ i (h : i < fs.size) (h' : i < tss.length), WT P fs[i].type tss[i] := by
  cases h with
  | bool h1 => rw [ht] at h1; cases h1
  | int h1 h2 => rw [ht] at h1; cases h1
  | str h1 _ => rw [ht] at h1; cases h1
  | slice h1 h2 h3 h4 => rw [ht] at h1; cases h1
  | struct h1 h2 h3 => rw [ht] at h1; cases h1; exact ⟨_, rfl, h2, h3⟩
theorem wt_struct2 {P : Program} {t : TypeId} {ts : List T} {f g : Field} (ht : P.underlying t = some (.struct #[f, g])) (h : WT P t ts) : ∃ a b, ts = a ++ b ∧ WT P f.type a ∧ WT P g.type b := by
  obtain ⟨tss, rfl, h1, h2⟩ := wt_struct ht h
  match tss, h1 with
  | [a, b], _ => exact ⟨a, b, by simp, h2 0 (by simp) (by simp), h2 1 (by simp) (by simp)⟩
/-- Lists of what a slice's elements are. -/
theorem map_of_all {α β : Type} {f : α → β} {p : α → Prop} : ∀ {xs : List β}, (∀ x ∈ xs, ∃ y, x = f y ∧ p y) → ∃ ys : List α, xs = ys.map f ∧ ∀ y ∈ ys, p y
  | [], _ => ⟨[], rfl, by simp⟩
  | x :: xs, h => by
    obtain ⟨y, rfl, hy⟩ := h x (by simp)
    obtain ⟨ys, e, hys⟩ := map_of_all (xs := xs) (f := f) (p := p) (fun x hx => h x (List.mem_cons_of_mem _ hx))
    exact ⟨y :: ys, by rw [e]; rfl, fun z hz => by
      rcases List.mem_cons.1 hz with rfl | hz
      · exact hy
      · exact hys z hz⟩
theorem wf_u32 {n : Int} (h : (Lit.int .u32 n).wf = true) : ∃ m : Nat, n = (m : Int) ∧ m < 4294967296 := by
  simp [Lit.wf, IntKind.min, IntKind.max, IntKind.signed, IntKind.bits] at h
  exact ⟨n.toNat, by omega, by omega⟩
theorem wf_i64 {n : Int} (h : (Lit.int .i64 n).wf = true) : -9223372036854775808 ≤ n ∧ n < 9223372036854775808 := by
  simp [Lit.wf, IntKind.min, IntKind.max, IntKind.signed, IntKind.bits] at h; omega
theorem wf_i32 {n : Int} (h : (Lit.int .i32 n).wf = true) : -2147483648 ≤ n ∧ n < 2147483648 := by
  simp [Lit.wf, IntKind.min, IntKind.max, IntKind.signed, IntKind.bits] at h; omega
theorem wf_i8 {n : Int} (h : (Lit.int .i8 n).wf = true) : -128 ≤ n ∧ n < 128 := by
  simp [Lit.wf, IntKind.min, IntKind.max, IntKind.signed, IntKind.bits] at h; omega
theorem wf_u16 {n : Int} (h : (Lit.int .u16 n).wf = true) : 0 ≤ n ∧ n < 65536 := by
  simp [Lit.wf, IntKind.min, IntKind.max, IntKind.signed, IntKind.bits] at h; omega
theorem wf_u8 {n : Int} (h : (Lit.int .u8 n).wf = true) : 0 ≤ n ∧ n < 256 := by
  simp [Lit.wf, IntKind.min, IntKind.max, IntKind.signed, IntKind.bits] at h; omega

theorem wt_limbs {ts : List T} (h : WT Tryz.prog 22 ts) : ∃ xs : List Nat, ts = [eN xs] ∧ xs.length ≤ maxLen := by
  obtain ⟨xs, rfl, h1, h2⟩ := wt_slice Tryz.underlying22 h
  obtain ⟨ys, rfl, _⟩ := map_of_all (f := limb) (p := fun _ => True) (xs := xs) fun x hx => by
    obtain ⟨n, rfl, hw⟩ := wt_int Tryz.underlying83 (h1 x hx)
    obtain ⟨m, rfl, _⟩ := wf_u32 hw
    exact ⟨m, rfl, trivial⟩
  exact ⟨ys, rfl, by simpa using h2⟩
theorem wt_Int {ts : List T} (h : WT Tryz.prog 24 ts) : ∃ (s : Bool) (a : List Nat), ts = [.lit (.bool s), eN a] ∧ a.length ≤ maxLen := by
  obtain ⟨x, y, rfl, h1, h2⟩ := wt_struct2 Tryz.underlying24 h
  obtain ⟨s, rfl⟩ := wt_bool Tryz.underlying4 h1
  obtain ⟨a, rfl, ha⟩ := wt_limbs h2
  exact ⟨s, a, rfl, ha⟩
theorem wtv_Int {tv : TV} (h : WTV Tryz.prog 24 tv) : ∃ (s : Bool) (a : List Nat), tv = gI s a ∧ a.length ≤ maxLen := by
  unfold WTV at h
  rw [Tryz.underlying24] at h
  obtain ⟨ts, rfl, h⟩ := h
  obtain ⟨s, a, rfl, ha⟩ := wt_Int h
  exact ⟨s, a, rfl, ha⟩
theorem wtv_bool {tv : TV} (h : WTV Tryz.prog 4 tv) : ∃ b, tv = tB b := by
  unfold WTV at h
  rw [Tryz.underlying4] at h
  obtain ⟨x, rfl, h⟩ := h
  obtain ⟨b, hb⟩ := wt_bool Tryz.underlying4 h
  cases hb; exact ⟨b, rfl⟩
theorem wtv_int {t : TypeId} {k : IntKind} (ht : Tryz.prog.underlying t = some (.int k)) {tv : TV} (h : WTV Tryz.prog t tv) : ∃ n, tv = tI k n ∧ (Lit.int k n).wf = true := by
  unfold WTV at h
  rw [ht] at h
  obtain ⟨x, rfl, h⟩ := h
  obtain ⟨n, hn, hw⟩ := wt_int ht h
  cases hn; exact ⟨n, rfl, hw⟩
theorem wtvs_nil {P : Program} {tvs : List TV} (h : WTVs P [] tvs) : tvs = [] := by cases h; rfl
theorem wtvs_cons {P : Program} {t : TypeId} {ts : List TypeId} {tvs : List TV} (h : WTVs P (t :: ts) tvs) : ∃ x xs, tvs = x :: xs ∧ WTV P t x ∧ WTVs P ts xs := by
  cases h with | cons h1 h2 => exact ⟨_, _, rfl, h1, h2⟩
theorem wt_struct2' {P : Program} {t : TypeId} {ts : List T} {f g : Field} (ht : P.underlying t = some (.struct #[f, g])) (h : WT P t ts) : ∃ a b, ts = a ++ b ∧ WT P f.type a ∧ WT P g.type b := wt_struct2 ht h
theorem wf_i16 {n : Int} (h : (Lit.int .i16 n).wf = true) : -32768 ≤ n ∧ n < 32768 := by
  simp [Lit.wf, IntKind.min, IntKind.max, IntKind.signed, IntKind.bits] at h; omega
theorem wt_IntL {ts : List T} (h : WT Tryz.prog 24 ts) : ∃ p : Bool × List Nat, ts = cI p ∧ p.2.length ≤ 9223372036854775807 := by
  obtain ⟨x, y, rfl, h1, h2⟩ := wt_struct2 Tryz.underlying24 h
  obtain ⟨b, rfl⟩ := wt_bool Tryz.underlying4 h1
  obtain ⟨xs, rfl, hl⟩ := wt_limbs h2
  exact ⟨(b, xs), rfl, Nat.le_trans hl (by decide)⟩
theorem wtv_u8s {tv : TV} (h : WTV Tryz.prog 62 tv) : ∃ l : List Int, tv = .one (eL (fun n => [T.lit (.int .u8 n)]) l) ∧ l.length ≤ maxLen ∧ ∀ n ∈ l, 0 ≤ n ∧ n < 256 := by
  unfold WTV at h
  rw [Tryz.underlying62] at h
  obtain ⟨x, rfl, h⟩ := h
  obtain ⟨xs, hx, h1, h2⟩ := wt_slice Tryz.underlying62 h
  cases hx
  obtain ⟨ys, rfl, h3⟩ := map_of_all (f := fun n => [T.lit (.int .u8 n)]) (p := fun n => 0 ≤ n ∧ n < 256) (xs := xs) fun x hx => by
    obtain ⟨n, rfl, hw⟩ := wt_int Tryz.underlying5 (h1 x hx)
    exact ⟨n, rfl, wf_u8 hw⟩
  exact ⟨ys, rfl, by simpa using h2, h3⟩
/-- The types of what comes in. -/
def plainL : List TypeId := [4, 22, 83, 24, 2, 21, 46, 5, 3, 62]
def plainS (t : TypeId) : Bool := plainL.contains t
theorem plain_ok : ∀ t, plainS t = true → plainAtB Tryz.prog plainS t = true := by
  have h : plainL.all (plainAtB Tryz.prog plainS) = true := by kernel_rfl
  intro t ht
  exact List.all_eq_true.1 h t (by simpa [plainS] using ht)

end Go.Proofs.YtgnfgaioeldagaaGreat
