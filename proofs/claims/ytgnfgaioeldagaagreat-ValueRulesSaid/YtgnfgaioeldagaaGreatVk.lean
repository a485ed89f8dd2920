/- At every input the call answers true and leaves its arguments as they were; no conditions. -/
import Derived.Test.YtgnfgaioeldagaaGreatVh
import Derived.Test.YtgnfgaioeldagaaGreatVg
set_option linter.unusedSimpArgs false
set_option linter.unusedVariables false
namespace Go.Proofs.YtgnfgaioeldagaaGreat
open Go Go.Abs
set_option maxHeartbeats 16000000
theorem fewT_FT {t : Tm} (h : fewT t = true) : FT t ∧ t.nodes ≤ 120 := by
  unfold fewT at h
  rw [Bool.and_eq_true] at h
  exact ⟨ftB_FT t h.2, of_decide_eq_true h.1⟩
theorem limM_put {m : List Fu} {name : ByteArray} {v : VR} (hm : limM m) (hl : m.length ≤ 1000) (hn : name.size < 1000) (hv : v.2.2.length ≤ 4) : limM (putM m name v) := by
  have hh : limM (heldM m) ∧ (heldM m).length ≤ 1000 := by
    unfold heldM; split
    · exact ⟨hm, hl⟩
    · exact ⟨⟨by decide, fun f hf => by cases hf⟩, by simp⟩
  unfold putM putF
  generalize heldM m = x at *
  have l1 := List.length_filter_le (fun g : Fu => sLt g.1.1 name) x
  have l2 := List.length_filter_le (fun g : Fu => sLt name g.1.1) x
  refine ⟨by rw [List.length_append, List.length_append]; simp only [List.length_singleton]; omega, fun f hf => ?_⟩
  rw [List.mem_append, List.mem_append] at hf
  rcases hf with (hf | hf) | hf
  · exact hh.1.2 f (List.mem_filter.1 hf).1
  · obtain rfl := List.mem_singleton.1 hf
    exact ⟨by show name.size < _; omega, by show 0 < 1000000000; decide, by show 0 < 1000000000; decide, (fun r hr => by cases hr), by show v.2.2.length < 1000000000; omega⟩
  · exact hh.1.2 f (List.mem_filter.1 hf).1
theorem fmB_len {m : List Fu} (h : fmB m = true) : m.length ≤ 12 := by
  unfold fmB at h
  rw [Bool.and_eq_true] at h
  exact of_decide_eq_true h.2
theorem beqB (b : Bool) : (b == b) = true := by cases b <;> rfl
theorem appF_app {s : Sg} {l : List VR} {b c : List Fu} (h : appF s l b = appF s l c) : ∀ a : List Fu, appF s l (a ++ b) = appF s l (a ++ c)
  | [] => h
  | f :: a => by
    show (if f.1 = s then _ else appF s l (a ++ b)) = (if f.1 = s then _ else appF s l (a ++ c))
    rw [appF_app h a]
theorem appF_one {s : Sg} {l : List VR} {f : Fu} {a : List Fu} (h : ¬ f.1 = s) : appF s l (f :: a) = appF s l a := if_neg h
theorem lN_64 {z : Int} (h1 : -9223372036854775808 ≤ z) (h2 : z < 9223372036854775808) : lN z ≤ 3 := lN_of (by rw [show BB ^ 3 = 1000000000000000000000000000 from rfl]; omega)
end Go.Proofs.YtgnfgaioeldagaaGreat
