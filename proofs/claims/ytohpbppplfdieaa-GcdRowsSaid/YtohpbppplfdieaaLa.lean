/- At every input the call answers true and leaves its arguments as they were; no conditions. -/
import Derived.Test.YtohpbppplfdieaaGb
import Derived.Test.YtohpbppplfdieaaMd
import Derived.Test.YtohpbppplfdieaaRows
set_option linter.unusedSimpArgs false
set_option linter.unusedVariables false
namespace Go.Proofs.Ytohpbppplfdieaa
open Go Go.Abs
set_option maxHeartbeats 4000000
theorem lN_small {z : Int} (h : z.natAbs < 1000000000) : lN z ≤ 1 := lN_of (by rw [Nat.pow_one]; exact h)
theorem tB_of {P : Program} {f : FuncId} {xs : List TV} {p : Prop} [Decidable p] (h : PCall P f xs (tB (decide p))) (hp : p) : PCall P f xs (tB true) := by rwa [decide_eq_true hp] at h
theorem tB_not {P : Program} {f : FuncId} {xs : List TV} {p : Prop} [Decidable p] (h : PCall P f xs (tB (decide p))) (hp : ¬ p) : PCall P f xs (tB false) := by rwa [decide_eq_false hp] at h

set_option maxRecDepth 100000 in
theorem known4 : PCall Try.prog 15 [] (tB true) := by
  refine pcall_of_wpA mixed Try.call15 Try.func15 rfl Try.ntmps15 Try.results15 (by simp) (by decide) ?_
  obtain ⟨c12, h12⟩ : ∃ c : Int, c = 12 := ⟨_, rfl⟩
  obtain ⟨c18, h18⟩ : ∃ c : Int, c = -18 := ⟨_, rfl⟩
  obtain ⟨c4, h4⟩ : ∃ c : Int, c = 4 := ⟨_, rfl⟩
  obtain ⟨c6, h6⟩ : ∃ c : Int, c = 6 := ⟨_, rfl⟩
  obtain ⟨c2, h2⟩ : ∃ c : Int, c = 2 := ⟨_, rfl⟩
  have o12 : PCall Try.prog 28 [tI .i64 12] (eI c12) := by rw [h12]; exact i_Of 12 (by decide) (by decide)
  have o18 : PCall Try.prog 28 [tI .i64 (-18)] (eI c18) := by rw [h18]; exact i_Of (-18) (by decide) (by decide)
  have o4 : PCall Try.prog 28 [tI .i64 4] (eI c4) := by rw [h4]; exact i_Of 4 (by decide) (by decide)
  have o6 : PCall Try.prog 28 [tI .i64 6] (eI c6) := by rw [h6]; exact i_Of 6 (by decide) (by decide)
  have o2 : PCall Try.prog 28 [tI .i64 2] (eI c2) := by rw [h2]; exact i_Of 2 (by decide) (by decide)
  have l12 : lN c12 ≤ 1 := lN_small (by omega)
  have l18 : lN c18 ≤ 1 := lN_small (by omega)
  have l4 : lN c4 ≤ 1 := lN_small (by omega)
  have l6 : lN c6 ≤ 1 := lN_small (by omega)
  have l2 : lN c2 ≤ 1 := lN_small (by omega)
  have hext := g_Ext (decide (c12 < 0)) (dig c12.natAbs) (decide (c18 < 0)) (dig c18.natAbs) (by unfold lN at *; omega) (by unfold lN at *; omega)
  rw [iv_eI, iv_eI] at hext
  have law := ext_law c12 c18
  have hg : (Int.gcd c12 c18 : Int) = c6 := by rw [h12, h18, h6]; decide
  have hb := law.2.2.2 (by omega) (by omega)
  have hlaw := law.1
  have hgo := g_Of_e c12 c18 (by omega) (by omega)
  rw [hg] at hext hlaw hgo
  generalize extX c12 c18 = X at *
  generalize extY c12 c18 = Y at *
  have lX : lN X ≤ 1 := lN_small (by omega)
  have lY : lN Y ≤ 1 := lN_small (by omega)
  have q1 := tB_of (i_Equal_e c6 c6 (by omega) (by omega)) rfl
  have m1 := i_Mul_e c12 X (by omega) (by omega)
  have m2 := i_Mul_e c18 Y (by omega) (by omega)
  have z1 := lN_mul c12 X
  have z2 := lN_mul c18 Y
  have ad := i_Add_e (c12 * X) (c18 * Y) (by omega) (by omega)
  rw [hlaw] at ad
  have lc := g_Lcm_e c4 c6 (by omega) (by omega)
  rw [show (Int.lcm c4 c6 : Int) = c12 by rw [h4, h6, h12]; decide] at lc
  have q2 := tB_of (i_Equal_e c12 c12 (by omega) (by omega)) rfl
  have hall := g_All [(decide (c4 < 0), dig c4.natAbs), (decide (c6 < 0), dig c6.natAbs)] (by simp) (by unfold lN at *; simp; omega)
  rw [gAll_two, iv_eI, iv_eI, show (Int.gcd c4 c6 : Int) = c2 by rw [h4, h6, h2]; decide] at hall
  have q3 := tB_of (i_Equal_e c2 c2 (by omega) (by omega)) rfl
  clear h12 h18 h4 h6 h2 law hb hlaw hg
  simp only [go_sem, reduceIte, Nat.reduceEqDiff, Nat.reduceLT, Nat.reduceLeDiff, Nat.reduceAdd, Nat.reduceSub, Nat.reduceMul, Nat.reducePow, Int.reduceNe, Int.reduceLT, Int.reduceLE, Int.reduceEq, Int.reduceToNat, Int.reduceNeg, Int.reduceAdd, Int.reduceSub, reduceCtorEq, not_false_eq_true, not_true_eq_false, ne_eq]
  (repeat (first | (refine regA_by 0 rfl ?_; simp only [go_sem, reduceIte, Nat.reduceEqDiff, Nat.reduceLT, Nat.reduceLeDiff, Nat.reduceAdd, Nat.reduceSub, Nat.reduceMul, Nat.reducePow, Int.reduceNe, Int.reduceLT, Int.reduceLE, Int.reduceEq, Int.reduceToNat, Int.reduceNeg, Int.reduceAdd, Int.reduceSub, reduceCtorEq, not_false_eq_true, not_true_eq_false, ne_eq]) | (refine call_pure (o12) rfl ?_; simp only [go_sem, reduceIte, Nat.reduceEqDiff, Nat.reduceLT, Nat.reduceLeDiff, Nat.reduceAdd, Nat.reduceSub, Nat.reduceMul, Nat.reducePow, Int.reduceNe, Int.reduceLT, Int.reduceLE, Int.reduceEq, Int.reduceToNat, Int.reduceNeg, Int.reduceAdd, Int.reduceSub, reduceCtorEq, not_false_eq_true, not_true_eq_false, ne_eq]) | (refine call_pure (o18) rfl ?_; simp only [go_sem, reduceIte, Nat.reduceEqDiff, Nat.reduceLT, Nat.reduceLeDiff, Nat.reduceAdd, Nat.reduceSub, Nat.reduceMul, Nat.reducePow, Int.reduceNe, Int.reduceLT, Int.reduceLE, Int.reduceEq, Int.reduceToNat, Int.reduceNeg, Int.reduceAdd, Int.reduceSub, reduceCtorEq, not_false_eq_true, not_true_eq_false, ne_eq]) | (refine call_pure (o4) rfl ?_; simp only [go_sem, reduceIte, Nat.reduceEqDiff, Nat.reduceLT, Nat.reduceLeDiff, Nat.reduceAdd, Nat.reduceSub, Nat.reduceMul, Nat.reducePow, Int.reduceNe, Int.reduceLT, Int.reduceLE, Int.reduceEq, Int.reduceToNat, Int.reduceNeg, Int.reduceAdd, Int.reduceSub, reduceCtorEq, not_false_eq_true, not_true_eq_false, ne_eq]) | (refine call_pure (o6) rfl ?_; simp only [go_sem, reduceIte, Nat.reduceEqDiff, Nat.reduceLT, Nat.reduceLeDiff, Nat.reduceAdd, Nat.reduceSub, Nat.reduceMul, Nat.reducePow, Int.reduceNe, Int.reduceLT, Int.reduceLE, Int.reduceEq, Int.reduceToNat, Int.reduceNeg, Int.reduceAdd, Int.reduceSub, reduceCtorEq, not_false_eq_true, not_true_eq_false, ne_eq]) | (refine call_pure (o2) rfl ?_; simp only [go_sem, reduceIte, Nat.reduceEqDiff, Nat.reduceLT, Nat.reduceLeDiff, Nat.reduceAdd, Nat.reduceSub, Nat.reduceMul, Nat.reducePow, Int.reduceNe, Int.reduceLT, Int.reduceLE, Int.reduceEq, Int.reduceToNat, Int.reduceNeg, Int.reduceAdd, Int.reduceSub, reduceCtorEq, not_false_eq_true, not_true_eq_false, ne_eq]) | (refine call_pure (hext) rfl ?_; simp only [go_sem, reduceIte, Nat.reduceEqDiff, Nat.reduceLT, Nat.reduceLeDiff, Nat.reduceAdd, Nat.reduceSub, Nat.reduceMul, Nat.reducePow, Int.reduceNe, Int.reduceLT, Int.reduceLE, Int.reduceEq, Int.reduceToNat, Int.reduceNeg, Int.reduceAdd, Int.reduceSub, reduceCtorEq, not_false_eq_true, not_true_eq_false, ne_eq]) | (refine call_pure (hgo) rfl ?_; simp only [go_sem, reduceIte, Nat.reduceEqDiff, Nat.reduceLT, Nat.reduceLeDiff, Nat.reduceAdd, Nat.reduceSub, Nat.reduceMul, Nat.reducePow, Int.reduceNe, Int.reduceLT, Int.reduceLE, Int.reduceEq, Int.reduceToNat, Int.reduceNeg, Int.reduceAdd, Int.reduceSub, reduceCtorEq, not_false_eq_true, not_true_eq_false, ne_eq]) | (refine call_pure (q1) rfl ?_; simp only [go_sem, reduceIte, Nat.reduceEqDiff, Nat.reduceLT, Nat.reduceLeDiff, Nat.reduceAdd, Nat.reduceSub, Nat.reduceMul, Nat.reducePow, Int.reduceNe, Int.reduceLT, Int.reduceLE, Int.reduceEq, Int.reduceToNat, Int.reduceNeg, Int.reduceAdd, Int.reduceSub, reduceCtorEq, not_false_eq_true, not_true_eq_false, ne_eq]) | (refine call_pure (q2) rfl ?_; simp only [go_sem, reduceIte, Nat.reduceEqDiff, Nat.reduceLT, Nat.reduceLeDiff, Nat.reduceAdd, Nat.reduceSub, Nat.reduceMul, Nat.reducePow, Int.reduceNe, Int.reduceLT, Int.reduceLE, Int.reduceEq, Int.reduceToNat, Int.reduceNeg, Int.reduceAdd, Int.reduceSub, reduceCtorEq, not_false_eq_true, not_true_eq_false, ne_eq]) | (refine call_pure (q3) rfl ?_; simp only [go_sem, reduceIte, Nat.reduceEqDiff, Nat.reduceLT, Nat.reduceLeDiff, Nat.reduceAdd, Nat.reduceSub, Nat.reduceMul, Nat.reducePow, Int.reduceNe, Int.reduceLT, Int.reduceLE, Int.reduceEq, Int.reduceToNat, Int.reduceNeg, Int.reduceAdd, Int.reduceSub, reduceCtorEq, not_false_eq_true, not_true_eq_false, ne_eq]) | (refine call_pure (m1) rfl ?_; simp only [go_sem, reduceIte, Nat.reduceEqDiff, Nat.reduceLT, Nat.reduceLeDiff, Nat.reduceAdd, Nat.reduceSub, Nat.reduceMul, Nat.reducePow, Int.reduceNe, Int.reduceLT, Int.reduceLE, Int.reduceEq, Int.reduceToNat, Int.reduceNeg, Int.reduceAdd, Int.reduceSub, reduceCtorEq, not_false_eq_true, not_true_eq_false, ne_eq]) | (refine call_pure (m2) rfl ?_; simp only [go_sem, reduceIte, Nat.reduceEqDiff, Nat.reduceLT, Nat.reduceLeDiff, Nat.reduceAdd, Nat.reduceSub, Nat.reduceMul, Nat.reducePow, Int.reduceNe, Int.reduceLT, Int.reduceLE, Int.reduceEq, Int.reduceToNat, Int.reduceNeg, Int.reduceAdd, Int.reduceSub, reduceCtorEq, not_false_eq_true, not_true_eq_false, ne_eq]) | (refine call_pure (ad) rfl ?_; simp only [go_sem, reduceIte, Nat.reduceEqDiff, Nat.reduceLT, Nat.reduceLeDiff, Nat.reduceAdd, Nat.reduceSub, Nat.reduceMul, Nat.reducePow, Int.reduceNe, Int.reduceLT, Int.reduceLE, Int.reduceEq, Int.reduceToNat, Int.reduceNeg, Int.reduceAdd, Int.reduceSub, reduceCtorEq, not_false_eq_true, not_true_eq_false, ne_eq]) | (refine call_pure (lc) rfl ?_; simp only [go_sem, reduceIte, Nat.reduceEqDiff, Nat.reduceLT, Nat.reduceLeDiff, Nat.reduceAdd, Nat.reduceSub, Nat.reduceMul, Nat.reducePow, Int.reduceNe, Int.reduceLT, Int.reduceLE, Int.reduceEq, Int.reduceToNat, Int.reduceNeg, Int.reduceAdd, Int.reduceSub, reduceCtorEq, not_false_eq_true, not_true_eq_false, ne_eq])))
  refine call_fz (tvs' := [.one (.seq (some false) (List.map cI [(decide (c4 < 0), dig c4.natAbs), (decide (c6 < 0), dig c6.natAbs)]))]) hall rfl (.cons fzW .nil) ?_
  simp only [go_sem, reduceIte, Nat.reduceEqDiff, Nat.reduceLT, Nat.reduceLeDiff, Nat.reduceAdd, Nat.reduceSub, Nat.reduceMul, Nat.reducePow, Int.reduceNe, Int.reduceLT, Int.reduceLE, Int.reduceEq, Int.reduceToNat, Int.reduceNeg, Int.reduceAdd, Int.reduceSub, reduceCtorEq, not_false_eq_true, not_true_eq_false, ne_eq]
  (repeat (first | (refine regA_by 0 rfl ?_; simp only [go_sem, reduceIte, Nat.reduceEqDiff, Nat.reduceLT, Nat.reduceLeDiff, Nat.reduceAdd, Nat.reduceSub, Nat.reduceMul, Nat.reducePow, Int.reduceNe, Int.reduceLT, Int.reduceLE, Int.reduceEq, Int.reduceToNat, Int.reduceNeg, Int.reduceAdd, Int.reduceSub, reduceCtorEq, not_false_eq_true, not_true_eq_false, ne_eq]) | (refine call_pure (o2) rfl ?_; simp only [go_sem, reduceIte, Nat.reduceEqDiff, Nat.reduceLT, Nat.reduceLeDiff, Nat.reduceAdd, Nat.reduceSub, Nat.reduceMul, Nat.reducePow, Int.reduceNe, Int.reduceLT, Int.reduceLE, Int.reduceEq, Int.reduceToNat, Int.reduceNeg, Int.reduceAdd, Int.reduceSub, reduceCtorEq, not_false_eq_true, not_true_eq_false, ne_eq]) | (refine call_pure (q3) rfl ?_; simp only [go_sem, reduceIte, Nat.reduceEqDiff, Nat.reduceLT, Nat.reduceLeDiff, Nat.reduceAdd, Nat.reduceSub, Nat.reduceMul, Nat.reducePow, Int.reduceNe, Int.reduceLT, Int.reduceLE, Int.reduceEq, Int.reduceToNat, Int.reduceNeg, Int.reduceAdd, Int.reduceSub, reduceCtorEq, not_false_eq_true, not_true_eq_false, ne_eq])))

set_option maxRecDepth 100000 in
theorem few4 (s : Bool) (a : List Nat) : PCall Try.prog 16 [gI s a] (tB (decide (a.length ≤ 6))) := by
  refine pcall_of_wpA mixed Try.call16 Try.func16 rfl Try.ntmps16 Try.results16 (by simp) (by decide) ?_
  simp only [go_sem, reduceIte, Nat.reduceEqDiff, Nat.reduceLT, Nat.reduceLeDiff, Nat.reduceAdd, Nat.reduceSub, Nat.reduceMul, Nat.reducePow, Int.reduceNe, Int.reduceLT, Int.reduceLE, Int.reduceEq, Int.reduceToNat, Int.reduceNeg, Int.reduceAdd, Int.reduceSub, reduceCtorEq, not_false_eq_true, not_true_eq_false, ne_eq]
  rw [decide_eq_decide]; omega
end Go.Proofs.Ytohpbppplfdieaa
namespace Go.Proofs.Ytohpbppplfdieaa
open Go Go.Abs Go.ChangeShapes Go.WideShapes Go.ChangeAt Go.RowKit
/-! ### What the seat's types read as -/
theorem Try.ownK : ownKnob Try.prog.godebug = none := by kernel_rfl
theorem Try.laidOut : laidOutB Try.prog = true := by kernel_rfl

theorem WT.len_one {P : Program} {t : TypeId} {ts : List T} (h : WT P t ts) : ∀ {d}, P.underlying t = some d → (match d with | .struct _ => False | _ => True) → ts.length = 1 := by
  cases h with
  | struct h1 _ _ => intro d hd hn; rw [h1] at hd; cases hd; exact hn.elim
  | _ => intros; rfl
theorem wt_bool {P : Program} {t : TypeId} {ts : List T} (ht : P.underlying t = some .bool) (h : WT P t ts) : ∃ b, ts = [.lit (.bool b)] := by
  cases h with
  | bool h1 => exact ⟨_, rfl⟩
  | int h1 _ => rw [ht] at h1; cases h1
  | str h1 _ => rw [ht] at h1; cases h1
  | slice h1 _ _ _ => rw [ht] at h1; cases h1
  | struct h1 _ _ => rw [ht] at h1; cases h1
theorem wt_int {P : Program} {t : TypeId} {ts : List T} {k : IntKind} (ht : P.underlying t = some (.int k)) (h : WT P t ts) : ∃ n, ts = [.lit (.int k n)] ∧ (Lit.int k n).wf = true := by
  cases h with
  | bool h1 => rw [ht] at h1; cases h1
  | int h1 h2 => rw [ht] at h1; cases h1; exact ⟨_, rfl, h2⟩
  | str h1 _ => rw [ht] at h1; cases h1
  | slice h1 _ _ _ => rw [ht] at h1; cases h1
  | struct h1 _ _ => rw [ht] at h1; cases h1
theorem wt_slice {P : Program} {t e : TypeId} {ts : List T} (ht : P.underlying t = some (.slice e)) (h : WT P t ts) : ∃ xs : List (List T), ts = [.seq none xs] ∧ (∀ x ∈ xs, WT P e x) ∧ xs.length ≤ maxLen := by
  cases h with
  | bool h1 => rw [ht] at h1; cases h1
  | int h1 h2 => rw [ht] at h1; cases h1
  | str h1 _ => rw [ht] at h1; cases h1
  | slice h1 h2 h3 h4 => rw [ht] at h1; cases h1; exact ⟨_, rfl, h2, h4⟩
  | struct h1 _ _ => rw [ht] at h1; cases h1
theorem wt_struct {P : Program} {t : TypeId} {ts : List T} {fs : Array Field} (ht : P.underlying t = some (.struct fs)) (h : WT P t ts) : ∃ tss : List (List T), ts = tss.flatten ∧ tss.length = fs.size ∧ ∀ i (h : i < fs.size) (h' : i < tss.length), WT P fs[i].type tss[i] := by
  cases h with
  | bool h1 => rw [ht] at h1; cases h1
  | int h1 h2 => rw [ht] at h1; cases h1
  | str h1 _ => rw [ht] at h1; cases h1
  | slice h1 h2 h3 h4 => rw [ht] at h1; cases h1
  | struct h1 h2 h3 => rw [ht] at h1; cases h1; exact ⟨_, rfl, h2, h3⟩
theorem wt_struct2 {P : Program} {t : TypeId} {ts : List T} {f g : Field} (ht : P.underlying t = some (.struct #[f, g])) (h : WT P t ts) : ∃ a b, ts = a ++ b ∧ WT P f.type a ∧ WT P g.type b := by
  obtain ⟨tss, rfl, h1, h2⟩ := wt_struct ht h
  match tss, h1 with
  | [a, b], _ => exact ⟨a, b, by simp, h2 0 (by simp) (by simp), h2 1 (by simp) (by simp)⟩
/-- Lists of what a slice's elements are. -/
theorem map_of_all {α β : Type} {f : α → β} {p : α → Prop} : ∀ {xs : List β}, (∀ x ∈ xs, ∃ y, x = f y ∧ p y) → ∃ ys : List α, xs = ys.map f ∧ ∀ y ∈ ys, p y
  | [], _ => ⟨[], rfl, by simp⟩
  | x :: xs, h => by
    obtain ⟨y, rfl, hy⟩ := h x (by simp)
    obtain ⟨ys, e, hys⟩ := map_of_all (xs := xs) (f := f) (p := p) (fun x hx => h x (List.mem_cons_of_mem _ hx))
    exact ⟨y :: ys, by rw [e]; rfl, fun z hz => by
      rcases List.mem_cons.1 hz with rfl | hz
      · exact hy
      · exact hys z hz⟩
theorem wf_u32 {n : Int} (h : (Lit.int .u32 n).wf = true) : ∃ m : Nat, n = (m : Int) ∧ m < 4294967296 := by
  simp [Lit.wf, IntKind.min, IntKind.max, IntKind.signed, IntKind.bits] at h
  exact ⟨n.toNat, by omega, by omega⟩
theorem wf_i64 {n : Int} (h : (Lit.int .i64 n).wf = true) : -9223372036854775808 ≤ n ∧ n < 9223372036854775808 := by
  simp [Lit.wf, IntKind.min, IntKind.max, IntKind.signed, IntKind.bits] at h; omega
theorem wf_i32 {n : Int} (h : (Lit.int .i32 n).wf = true) : -2147483648 ≤ n ∧ n < 2147483648 := by
  simp [Lit.wf, IntKind.min, IntKind.max, IntKind.signed, IntKind.bits] at h; omega
theorem wf_i8 {n : Int} (h : (Lit.int .i8 n).wf = true) : -128 ≤ n ∧ n < 128 := by
  simp [Lit.wf, IntKind.min, IntKind.max, IntKind.signed, IntKind.bits] at h; omega
theorem wf_u16 {n : Int} (h : (Lit.int .u16 n).wf = true) : 0 ≤ n ∧ n < 65536 := by
  simp [Lit.wf, IntKind.min, IntKind.max, IntKind.signed, IntKind.bits] at h; omega
theorem wf_u8 {n : Int} (h : (Lit.int .u8 n).wf = true) : 0 ≤ n ∧ n < 256 := by
  simp [Lit.wf, IntKind.min, IntKind.max, IntKind.signed, IntKind.bits] at h; omega

theorem wt_limbs {ts : List T} (h : WT Try.prog 22 ts) : ∃ xs : List Nat, ts = [eN xs] ∧ xs.length ≤ maxLen := by
  obtain ⟨xs, rfl, h1, h2⟩ := wt_slice Try.underlying22 h
  obtain ⟨ys, rfl, _⟩ := map_of_all (f := limb) (p := fun _ => True) (xs := xs) fun x hx => by
    obtain ⟨n, rfl, hw⟩ := wt_int Try.underlying64 (h1 x hx)
    obtain ⟨m, rfl, _⟩ := wf_u32 hw
    exact ⟨m, rfl, trivial⟩
  exact ⟨ys, rfl, by simpa using h2⟩
theorem wt_Int {ts : List T} (h : WT Try.prog 24 ts) : ∃ (s : Bool) (a : List Nat), ts = [.lit (.bool s), eN a] ∧ a.length ≤ maxLen := by
  obtain ⟨x, y, rfl, h1, h2⟩ := wt_struct2 Try.underlying24 h
  obtain ⟨s, rfl⟩ := wt_bool Try.underlying4 h1
  obtain ⟨a, rfl, ha⟩ := wt_limbs h2
  exact ⟨s, a, rfl, ha⟩
theorem wtv_Int {tv : TV} (h : WTV Try.prog 24 tv) : ∃ (s : Bool) (a : List Nat), tv = gI s a ∧ a.length ≤ maxLen := by
  unfold WTV at h
  rw [Try.underlying24] at h
  obtain ⟨ts, rfl, h⟩ := h
  obtain ⟨s, a, rfl, ha⟩ := wt_Int h
  exact ⟨s, a, rfl, ha⟩
theorem wtv_bool {tv : TV} (h : WTV Try.prog 4 tv) : ∃ b, tv = tB b := by
  unfold WTV at h
  rw [Try.underlying4] at h
  obtain ⟨x, rfl, h⟩ := h
  obtain ⟨b, hb⟩ := wt_bool Try.underlying4 h
  cases hb; exact ⟨b, rfl⟩
theorem wtv_int {t : TypeId} {k : IntKind} (ht : Try.prog.underlying t = some (.int k)) {tv : TV} (h : WTV Try.prog t tv) : ∃ n, tv = tI k n ∧ (Lit.int k n).wf = true := by
  unfold WTV at h
  rw [ht] at h
  obtain ⟨x, rfl, h⟩ := h
  obtain ⟨n, hn, hw⟩ := wt_int ht h
  cases hn; exact ⟨n, rfl, hw⟩
theorem wtv_Ints {tv : TV} (h : WTV Try.prog 25 tv) : ∃ l : List (Bool × List Nat), tv = .one (eL cI l) ∧ l.length ≤ maxLen := by
  unfold WTV at h
  rw [Try.underlying25] at h
  obtain ⟨x, rfl, h⟩ := h
  obtain ⟨xs, hx, h1, h2⟩ := wt_slice Try.underlying25 h
  cases hx
  obtain ⟨ys, rfl, _⟩ := map_of_all (f := cI) (p := fun _ => True) (xs := xs) fun x hx => by
    obtain ⟨s, a, rfl, _⟩ := wt_Int (h1 x hx)
    exact ⟨(s, a), rfl, trivial⟩
  exact ⟨ys, rfl, by simpa using h2⟩
theorem wtvs_nil {P : Program} {tvs : List TV} (h : WTVs P [] tvs) : tvs = [] := by cases h; rfl
theorem wtvs_cons {P : Program} {t : TypeId} {ts : List TypeId} {tvs : List TV} (h : WTVs P (t :: ts) tvs) : ∃ x xs, tvs = x :: xs ∧ WTV P t x ∧ WTVs P ts xs := by
  cases h with | cons h1 h2 => exact ⟨_, _, rfl, h1, h2⟩
/-- The types of what comes in. -/
def plainS (t : TypeId) : Bool := t == 4 || t == 22 || t == 64 || t == 24 || t == 25 || t == 2 || t == 21 || t == 41 || t == 5 || t == 49 || t == 43
theorem plain_ok : ∀ t, plainS t = true → plainAtB Try.prog plainS t = true := by
  intro t h
  unfold plainS at h
  simp only [Bool.or_eq_true, beq_iff_eq] at h
  rcases h with (((((((((h | h) | h) | h) | h) | h) | h) | h) | h) | h) | h <;> subst h <;> kernel_rfl

end Go.Proofs.Ytohpbppplfdieaa
