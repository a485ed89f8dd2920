/- At every input the call answers true and leaves its arguments as they were; no conditions. -/
import Derived.Test.YtjmbhknhiakkpaaQc
set_option linter.unusedSimpArgs false
set_option linter.unusedVariables false
namespace Go.Proofs.Ytjmbhknhiakkpaa
open Go Go.Abs
set_option maxHeartbeats 4000000
/-! ### The reference's fractions -/
theorem e0nat (m : Nat) : eI (m : Int) = gI false (dig m) := by unfold eI; rw [decide_eq_false (by omega)]; rfl
theorem raw_of_e {P : Program} {f : FuncId} {r : Rat → TV} {x : Rat} {n : Nat} (hx : lQ x < n) (h : ∀ (s : Bool) (a d : List Nat), a.length < n → d.length < n → PCall P f [gQ s a d] (r (qv s a d))) : PCall P f [eQ x] (r x) := by
  have nx := lQ_num x
  have dx := lQ_den x
  have := h (decide (x.num < 0)) (dig x.num.natAbs) (dig x.den) (by unfold lN at nx; omega) (by rw [lN_nat'] at dx; omega)
  rwa [qv_eQ] at this
theorem raw_of_e2 {P : Program} {f : FuncId} {r : Rat → Rat → TV} {x y : Rat} {n : Nat} (hx : lQ x < n) (hy : lQ y < n) (h : ∀ (s : Bool) (a d : List Nat) (t : Bool) (b e : List Nat), a.length < n → d.length < n → b.length < n → e.length < n → PCall P f [gQ s a d, gQ t b e] (r (qv s a d) (qv t b e))) : PCall P f [eQ x, eQ y] (r x y) := by
  have nx := lQ_num x
  have dx := lQ_den x
  have ny := lQ_num y
  have dy := lQ_den y
  have := h (decide (x.num < 0)) (dig x.num.natAbs) (dig x.den) (decide (y.num < 0)) (dig y.num.natAbs) (dig y.den) (by unfold lN at nx; omega) (by rw [lN_nat'] at dx; omega) (by unfold lN at ny; omega) (by rw [lN_nat'] at dy; omega)
  rwa [qv_eQ, qv_eQ] at this
theorem divInt_add (x y : Rat) : Rat.divInt (x.num * y.den + y.num * x.den) ((x.den : Int) * y.den) = x + y := by
  rw [Rat.add_def', ← Int.natCast_mul, Rat.divInt_ofNat]
theorem divInt_mul (x y : Rat) : Rat.divInt (x.num * y.num) ((x.den : Int) * y.den) = x * y := by
  rw [Rat.mul_def', ← Int.natCast_mul, Rat.divInt_ofNat]
theorem divInt_div (x y : Rat) : Rat.divInt (x.num * y.den) ((x.den : Int) * y.num) = x / y := by
  rw [Rat.div_def, ← Rat.divInt_mul_divInt, Rat.num_divInt_den]
  congr 1
  exact (Rat.inv_def y).symm
end Go.Proofs.Ytjmbhknhiakkpaa
