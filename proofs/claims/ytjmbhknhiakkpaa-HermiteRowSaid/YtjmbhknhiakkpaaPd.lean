/- At every input the call answers true and leaves its arguments as they were; no conditions. -/
import Derived.Test.YtjmbhknhiakkpaaPc
import Derived.Test.YtjmbhknhiakkpaaQa
import Derived.Test.YtjmbhknhiakkpaaMf
set_option linter.unusedSimpArgs false
set_option linter.unusedVariables false
namespace Go.Proofs.Ytjmbhknhiakkpaa
open Go Go.Abs
set_option maxHeartbeats 8000000
theorem Bd_put {N L : Nat} {f g : Fm} {v : Int} (hv : v < 9223372036854775808) (hf : Bd N L f) (hg : Bd N L g) : Bd (N + 1 + N) (L + L + 4) (putF f v g) := by
  unfold putF
  have hc := lN_coI hf v
  split
  · exact hf.mono (by omega) (by omega)
  · have hvb : Bd 1 1 (varF v.toNat) := Bd_var (by omega)
    have b1 := Bd_sc hvb (-(coI f.1 v))
    rw [lN_neg] at b1
    exact (Bd_add (Bd_add hf b1) (Bd_sc hg (coI f.1 v))).mono (by omega) (by omega)
theorem WF_put {f g : Fm} {v : Int} (hf : WF f) (hg : WF g) : WF (putF f v g) := by
  unfold putF; split
  · exact hf
  · exact WF_add (WF_add hf (WF_sc (WF_var _) _)) (WF_sc hg _)
end Go.Proofs.Ytjmbhknhiakkpaa
