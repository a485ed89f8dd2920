/- At every input the call answers true and leaves its arguments as they were; no conditions. -/
import Derived.Test.YtjmbhknhiakkpaaPb
import Derived.Test.YtjmbhknhiakkpaaPa
import Derived.Test.YtjmbhknhiakkpaaMd
set_option linter.unusedSimpArgs false
set_option linter.unusedVariables false
namespace Go.Proofs.Ytjmbhknhiakkpaa
open Go Go.Abs
set_option maxHeartbeats 8000000
theorem BL.mono {N L M K : Nat} {a : LL} (h : BL N L a) (h1 : N ≤ M) (h2 : L ≤ K) : BL M K a := ⟨Nat.le_trans h.1 h1, fun m hm => ⟨(h.2.1 m hm).1, Nat.le_trans (h.2.1 m hm).2 h2⟩, Nat.le_trans h.2.2 h2⟩
/-- A form without a variable. -/
def dropM (v : Int) (l : List Mn) : List Mn := l.filter fun m => decide ((m.1 : Int) ≠ v)
theorem dropM_snoc (v : Int) (l : List Mn) (m : Mn) : dropM v (l ++ [m]) = if (m.1 : Int) = v then dropM v l else dropM v l ++ [m] := by
  unfold dropM
  rw [List.filter_append, List.filter_cons, List.filter_nil]
  by_cases h : (m.1 : Int) = v
  · rw [if_neg (by simp [h]), if_pos h, List.append_nil]
  · rw [if_pos (by simp [h]), if_neg h]
theorem dropM_len (v : Int) (l : List Mn) : (dropM v l).length ≤ l.length := List.length_filter_le _ _
/-- The reference puts as the program does. -/
theorem put_ref {f g : Fm} (hf : WF f) (hg : WF g) (v : Int) : addF (dropM v f.1, f.2) (scF g (coI f.1 v)) = putF f v g := by
  unfold putF
  by_cases hv : v < 0
  · have e1 : dropM v f.1 = f.1 := List.filter_eq_self.2 fun m _ => by simp; omega
    rw [e1, coI_neg _ hv, if_pos rfl, scF_eq0]
    exact add_zero_right f
  · obtain ⟨n, rfl⟩ : ∃ n : Nat, v = n := ⟨v.toNat, by omega⟩
    have ed : dropM (n : Int) f.1 = f.1.filter fun m => decide (m.1 ≠ n) := by
      unfold dropM
      congr 1
      funext m
      rw [decide_eq_decide]
      omega
    have wd : WF (dropM (n : Int) f.1, f.2) := by
      show WM 0 (dropM _ _); rw [ed]; exact WM_filter hf
    rw [coI_nat, Int.toNat_natCast]
    by_cases hz : coM f.1 n = 0
    · rw [if_pos hz, hz, scF_eq0, add_zero_right]
      refine WF_ext wd hf (fun u => ?_) rfl
      show coM (dropM _ _) u = _
      rw [ed, coM_filter n hf u]
      split
      · rename_i e; rw [e, hz]
      · rfl
    · rw [if_neg hz]
      refine WF_ext (WF_add wd (WF_sc hg _)) (WF_add (WF_add hf (WF_sc (WF_var _) _)) (WF_sc hg _)) (fun u => ?_) ?_
      · rw [co_add wd (WF_sc hg _), co_add (WF_add hf (WF_sc (WF_var _) _)) (WF_sc hg _), co_add hf (WF_sc (WF_var _) _), co_sc (varF n), co_var]
        show coM (dropM _ _) u + _ = _
        rw [ed, coM_filter n hf u]
        by_cases e : u = n
        · subst e; rw [if_pos rfl, if_pos rfl]; omega
        · rw [if_neg e, if_neg (fun h => e h.symm)]; omega
      · rw [k_add, k_add, k_add, k_sc (varF n)]
        show f.2 + _ = f.2 + 0 * _ + _
        rw [Int.zero_mul, Int.add_zero]
end Go.Proofs.Ytjmbhknhiakkpaa
namespace Go.Proofs.Ytjmbhknhiakkpaa
open Go Go.Abs
set_option maxHeartbeats 8000000
end Go.Proofs.Ytjmbhknhiakkpaa
namespace Go.Proofs.Ytjmbhknhiakkpaa
open Go Go.Abs
set_option maxHeartbeats 8000000
end Go.Proofs.Ytjmbhknhiakkpaa
namespace Go.Proofs.Ytjmbhknhiakkpaa
open Go Go.Abs
set_option maxHeartbeats 8000000
/-- Few parts, few limbs. -/
def FL (l : LL) : Prop := (∀ m ∈ l.1, m.2.2.length ≤ 4 ∧ m.1 ≤ 100) ∧ l.1.length ≤ 8 ∧ l.2.2.length ≤ 4
instance (l : LL) : Decidable (FL l) := by unfold FL; exact inferInstance
def FP (x : List (Bool × List Nat)) : Prop := (∀ m ∈ x, m.2.length ≤ 4) ∧ x.length ≤ 12
instance (x : List (Bool × List Nat)) : Decidable (FP x) := by unfold FP; exact inferInstance
theorem FL.bl {l : LL} (h : FL l) (ho : LLok l) : BL 8 4 l := ⟨h.2.1, fun m hm => ⟨ho.2 m hm, (h.1 m hm).1⟩, h.2.2⟩
end Go.Proofs.Ytjmbhknhiakkpaa
