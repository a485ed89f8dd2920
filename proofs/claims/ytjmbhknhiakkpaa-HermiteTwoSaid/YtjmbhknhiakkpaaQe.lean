/- At every input the call answers true and leaves its arguments as they were; no conditions. -/
import Derived.Test.YtjmbhknhiakkpaaQc
import Derived.Test.YtjmbhknhiakkpaaMf
set_option linter.unusedSimpArgs false
set_option linter.unusedVariables false
namespace Go.Proofs.Ytjmbhknhiakkpaa
open Go Go.Abs
set_option maxHeartbeats 4000000
/-! ### The reference's fractions -/
theorem e0nat (m : Nat) : eI (m : Int) = gI false (dig m) := by unfold eI; rw [decide_eq_false (by omega)]; rfl
theorem raw_of_e {P : Program} {f : FuncId} {r : Rat → TV} {x : Rat} {n : Nat} (hx : lQ x < n) (h : ∀ (s : Bool) (a d : List Nat), a.length < n → d.length < n → PCall P f [gQ s a d] (r (qv s a d))) : PCall P f [eQ x] (r x) := by
  have nx := lQ_num x
  have dx := lQ_den x
  have := h (decide (x.num < 0)) (dig x.num.natAbs) (dig x.den) (by unfold lN at nx; omega) (by rw [lN_nat'] at dx; omega)
  rwa [qv_eQ] at this
theorem raw_of_e2 {P : Program} {f : FuncId} {r : Rat → Rat → TV} {x y : Rat} {n : Nat} (hx : lQ x < n) (hy : lQ y < n) (h : ∀ (s : Bool) (a d : List Nat) (t : Bool) (b e : List Nat), a.length < n → d.length < n → b.length < n → e.length < n → PCall P f [gQ s a d, gQ t b e] (r (qv s a d) (qv t b e))) : PCall P f [eQ x, eQ y] (r x y) := by
  have nx := lQ_num x
  have dx := lQ_den x
  have ny := lQ_num y
  have dy := lQ_den y
  have := h (decide (x.num < 0)) (dig x.num.natAbs) (dig x.den) (decide (y.num < 0)) (dig y.num.natAbs) (dig y.den) (by unfold lN at nx; omega) (by rw [lN_nat'] at dx; omega) (by unfold lN at ny; omega) (by rw [lN_nat'] at dy; omega)
  rwa [qv_eQ, qv_eQ] at this
theorem divInt_add (x y : Rat) : Rat.divInt (x.num * y.den + y.num * x.den) ((x.den : Int) * y.den) = x + y := by
  rw [Rat.add_def', ← Int.natCast_mul, Rat.divInt_ofNat]
theorem divInt_mul (x y : Rat) : Rat.divInt (x.num * y.num) ((x.den : Int) * y.den) = x * y := by
  rw [Rat.mul_def', ← Int.natCast_mul, Rat.divInt_ofNat]
theorem divInt_div (x y : Rat) : Rat.divInt (x.num * y.den) ((x.den : Int) * y.num) = x / y := by
  rw [Rat.div_def, ← Rat.divInt_mul_divInt, Rat.num_divInt_den]
  congr 1
  exact (Rat.inv_def y).symm
end Go.Proofs.Ytjmbhknhiakkpaa
namespace Go.Proofs.Ytjmbhknhiakkpaa
open Go Go.Abs
set_option maxHeartbeats 8000000
/-! ### Fractions in slices -/
abbrev QQ := Bool × List Nat × List Nat
def cQ (q : QQ) : List T := [.lit (.bool q.1), eN q.2.1, eN q.2.2]
theorem cQ_len (q : QQ) : (cQ q).length = 3 := rfl
abbrev tLQ (l : List QQ) : TV := .one (eL cQ l)
abbrev aLQ (l : List QQ) : AV := .one (.t (eL cQ l))
/-- A fraction as it is kept, in a slice. -/
def cR (x : Rat) : List T := [.lit (.bool (decide (x.num < 0))), eN (dig x.num.natAbs), eN (dig x.den)]
theorem cR_len (x : Rat) : (cR x).length = 3 := rfl
abbrev tLR (l : List Rat) : TV := .one (eL cR l)
abbrev aLR (l : List Rat) : AV := .one (.t (eL cR l))
attribute [go_sem] cQ cR
def qQ (q : QQ) : Rat := qv q.1 q.2.1 q.2.2
def rawQ (x : Rat) : QQ := (decide (x.num < 0), dig x.num.natAbs, dig x.den)
theorem qQ_raw (x : Rat) : qQ (rawQ x) = x := qv_eQ x
theorem eL_raw (l : List Rat) : eL cQ (l.map rawQ) = eL cR l := by unfold eL; rw [List.map_map]; rfl
theorem cR_sd {ys : List Rat} {i : Nat} (hi : i < ys.length) {q : Rat} : (cellsL cR ys).take (i * 3) ++ C.t (.lit (.bool (decide (q.num < 0)))) :: C.t (eN (dig q.num.natAbs)) :: C.t (eN (dig q.den)) :: (cellsL cR ys).drop (i * 3 + 3) = cellsL cR (ys.set i q) := by
  have := cellsL_set (f := cR) (sz := 3) cR_len hi (y := q)
  rw [← this]; simp [setCs, cR]
theorem cR_clen {ys : List Rat} : (cellsL cR ys).length = ys.length * 3 := cellsL_length cR_len
theorem cR_at {ys : List Rat} {i : Nat} (hi : i < ys.length) : (cellsL cR ys).drop (i * 3) = (cR ys[i]).map .t ++ cellsL cR (ys.drop (i + 1)) := cellsL_at cR_len hi
/-! ### Slices of fractions that are made -/
abbrev z3 : List C := [.t (.lit (.bool false)), .t (.seq (some true) []), .t (.seq (some true) [])]
/-- What a new slice holds is told as weak cells. -/
def cW (_ : Unit) : List T := [.lit (.bool false), eN [], eN []]
/-- Cells told so far, behind them noughts of memory. -/
def cZ (q : Option Rat) : List T := match q with | some x => cR x | none => [.lit (.bool false), eN [], eN []]
theorem cZ_len (q : Option Rat) : (cZ q).length = 3 := by cases q <;> rfl
theorem cZ_some {x : Rat} : cZ (some x) = cR x := rfl
theorem weakL_z3 : ∀ n : Nat, WeakL (repl n z3) (cellsL cZ (List.replicate n none))
  | 0 => .nil
  | n + 1 => by
    have ih := weakL_z3 n
    unfold repl at ih ⊢
    rw [List.replicate_succ, List.replicate_succ, List.flatten_cons, cellsL_cons]
    exact .cons .refl (.cons .seq (.cons .seq ih))
theorem cZ_map (l : List Rat) : cellsL cZ (l.map some) = cellsL cR l := by
  unfold cellsL; rw [List.map_map]; rfl
theorem cZ_sd {ys : List (Option Rat)} {i : Nat} (hi : i < ys.length) {q : Rat} : (cellsL cZ ys).take (i * 3) ++ C.t (.lit (.bool (decide (q.num < 0)))) :: C.t (eN (dig q.num.natAbs)) :: C.t (eN (dig q.den)) :: (cellsL cZ ys).drop (i * 3 + 3) = cellsL cZ (ys.set i (some q)) := by
  have := cellsL_set (f := cZ) (sz := 3) cZ_len hi (y := some q)
  rw [← this]; simp [setCs, cZ, cR]
theorem cZ_clen {ys : List (Option Rat)} : (cellsL cZ ys).length = ys.length * 3 := cellsL_length cZ_len
theorem fill_next {l : List Rat} {n i : Nat} (hi : i < l.length) (hn : l.length ≤ n) : ((l.take i).map some ++ List.replicate (n - i) none).set i (some l[i]) = (l.take (i + 1)).map some ++ List.replicate (n - (i + 1)) none := by
  rw [List.set_append, if_neg (by simp; omega), show i - ((l.take i).map some).length = 0 by simp; omega, show n - i = (n - (i + 1)) + 1 by omega, List.replicate_succ, List.set_cons_zero, take_snoc hi, List.map_append, List.append_assoc]; rfl
theorem q_Of1_e (p : Int) (ha : lN p < 1000000000000) : PCall Try.prog 76 [eI p] (eQ (p : Rat)) := by
  have := q_Of1 (decide (p < 0)) (dig p.natAbs) ha; rwa [iv_eI] at this
end Go.Proofs.Ytjmbhknhiakkpaa
