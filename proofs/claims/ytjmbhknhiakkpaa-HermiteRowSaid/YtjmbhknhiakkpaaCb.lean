/- At every input the call answers true and leaves its arguments as they were; no conditions. -/
import Derived.Test.YtjmbhknhiakkpaaCa
set_option linter.unusedSimpArgs false
set_option linter.unusedVariables false
namespace Go.Proofs.Ytjmbhknhiakkpaa
open Go Go.Abs
set_option maxHeartbeats 16000000
theorem cR_set {n : Nat} {g : Nat → Rat} {k : Nat} (hk : k < n) {y : Rat} : (cellsL cR (fnL n g)).take (k * 3) ++ C.t (.lit (.bool (decide (y.num < 0)))) :: C.t (eN (dig y.num.natAbs)) :: C.t (eN (dig y.den)) :: (cellsL cR (fnL n g)).drop (k * 3 + 3) = cellsL cR (fnL n (fun v => if v = k then y else g v)) := by
  rw [cR_sd (by rw [fnL_len]; exact hk), fnL_set]
theorem getD_map {α β : Type} {f : α → β} {l : List α} {i : Nat} {d : β} (h : i < l.length) : (l.map f).getD i d = f l[i] := by
  rw [List.getD_eq_getElem?_getD, List.getElem?_map, List.getElem?_eq_getElem h]; rfl
end Go.Proofs.Ytjmbhknhiakkpaa
namespace Go.Proofs.Ytjmbhknhiakkpaa
open Go Go.Abs
set_option maxHeartbeats 16000000
end Go.Proofs.Ytjmbhknhiakkpaa
