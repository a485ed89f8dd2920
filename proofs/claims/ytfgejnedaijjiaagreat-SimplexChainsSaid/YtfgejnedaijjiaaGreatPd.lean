/- At every input the call answers true and leaves its arguments as they were; no conditions. -/
import Derived.Test.YtfgejnedaijjiaaGreatPc
import Derived.Test.YtfgejnedaijjiaaGreatQa
import Derived.Test.YtfgejnedaijjiaaGreatMf
set_option linter.unusedSimpArgs false
set_option linter.unusedVariables false
namespace Go.Proofs.YtfgejnedaijjiaaGreat
open Go Go.Abs
set_option maxHeartbeats 8000000
theorem l_Is_e (f : Fm) {N L : Nat} (hN : N ≤ 1000000) (hL : L ≤ 900000) (wf : WF f) (hf : Bd N L f) : PCall Tryz.prog 162 [eF f] (tB true) := by
  have hb := BL_enc hf
  have := l_Is (encL f) (by have := hb.1; omega) (fun m hm => by have := (hb.2.1 m hm).2; omega) (by have := hb.2.2; omega)
  rw [gL_encL] at this
  exact tB_of this (IsL_enc wf)
theorem l_Sub_e (f g : Fm) {N L : Nat} (hN : N ≤ 1000000) (hL : L ≤ 40000) (wf : WF f) (wg : WF g) (hf : Bd N L f) (hg : Bd N L g) : PCall Tryz.prog 128 [eF f, eF g] (eF (addF f (scF g (-1)))) :=
  l_of_raw2 (r := fun f g => eF (addF f (scF g (-1)))) wf wg hf hg fun l k hl hk => l_Sub l k hN hL hl hk
theorem l_Gcd_e (f : Fm) {N L : Nat} (hN : N ≤ 1000000) (hL : L ≤ 90000) (wf : WF f) (hf : Bd N L f) : PCall Tryz.prog 140 [eF f] (eI (gM f.1 : Int)) :=
  l_of_raw (r := fun f => eI (gM f.1 : Int)) wf hf fun l hl => l_Gcd l hN hL hl
theorem Bd_put {N L : Nat} {f g : Fm} {v : Int} (hv : v < 9223372036854775808) (hf : Bd N L f) (hg : Bd N L g) : Bd (N + 1 + N) (L + L + 4) (putF f v g) := by
  unfold putF
  have hc := lN_coI hf v
  split
  · exact hf.mono (by omega) (by omega)
  · have hvb : Bd 1 1 (varF v.toNat) := Bd_var (by omega)
    have b1 := Bd_sc hvb (-(coI f.1 v))
    rw [lN_neg] at b1
    exact (Bd_add (Bd_add hf b1) (Bd_sc hg (coI f.1 v))).mono (by omega) (by omega)
theorem WF_put {f g : Fm} {v : Int} (hf : WF f) (hg : WF g) : WF (putF f v g) := by
  unfold putF; split
  · exact hf
  · exact WF_add (WF_add hf (WF_sc (WF_var _) _)) (WF_sc hg _)
end Go.Proofs.YtfgejnedaijjiaaGreat
