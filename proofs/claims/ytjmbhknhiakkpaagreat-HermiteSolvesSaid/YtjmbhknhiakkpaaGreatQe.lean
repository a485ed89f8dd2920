/- At every input the call answers true and leaves its arguments as they were; no conditions. -/
import Derived.Test.YtjmbhknhiakkpaaGreatQc
import Derived.Test.YtjmbhknhiakkpaaGreatMf
set_option linter.unusedSimpArgs false
set_option linter.unusedVariables false
namespace Go.Proofs.YtjmbhknhiakkpaaGreat
open Go Go.Abs
set_option maxHeartbeats 4000000
/-! ### The reference's fractions -/
theorem e0nat (m : Nat) : eI (m : Int) = gI false (dig m) := by unfold eI; rw [decide_eq_false (by omega)]; rfl
set_option maxRecDepth 100000 in
theorem r_den (s : Bool) (a d : List Nat) : PCall Tryz.prog 54 [gQ s a d] (gI false d) := by
  refine pcall_of_wpA mixed Tryz.call54 Tryz.func54 rfl Tryz.ntmps54 Tryz.results54 (by simp) (by decide) ?_
  simp only [go_sem]
  try exact fz_agg2 .t .t
theorem r_den_e (x : Rat) : PCall Tryz.prog 54 [eQ x] (eI (x.den : Int)) := by
  rw [e0nat]; exact r_den _ _ _
set_option maxRecDepth 100000 in
theorem r_RatInt (s : Bool) (a : List Nat) (ha : a.length < 4000000000) : PCall Tryz.prog 26 [gI s a] (eQ ((iv s a : Int) : Rat)) := by
  refine pcall_of_wpA mixed Tryz.call26 Tryz.func26 rfl Tryz.ntmps26 Tryz.results26 (by simp) (by decide) ?_
  have h := i_May s a (by omega)
  rw [eQ_int]
  simp only [go_sem]
  ((repeat (refine regA_by 0 rfl ?_; simp only [go_sem])); refine call_pure (h) rfl ?_; simp only [go_sem]; (repeat (refine regA_by 0 rfl ?_; simp only [go_sem])))
  exact fz_agg3 .t .t .weak
theorem r_RatInt_e (p : Int) (ha : lN p < 4000000000) : PCall Tryz.prog 26 [eI p] (eQ (p : Rat)) := by
  have := r_RatInt (decide (p < 0)) (dig p.natAbs) ha; rwa [iv_eI] at this
theorem r_RatInt_0 : PCall Tryz.prog 26 [gI0] (eQ 0) := by
  have := r_RatInt false [] (by simp)
  rw [show ((iv false [] : Int) : Rat) = 0 by rw [show iv false [] = 0 by decide]; rfl] at this
  exact this.fz (.cons (fz_agg2 .t .weak) .nil)
theorem raw_of_e {P : Program} {f : FuncId} {r : Rat → TV} {x : Rat} {n : Nat} (hx : lQ x < n) (h : ∀ (s : Bool) (a d : List Nat), a.length < n → d.length < n → PCall P f [gQ s a d] (r (qv s a d))) : PCall P f [eQ x] (r x) := by
  have nx := lQ_num x
  have dx := lQ_den x
  have := h (decide (x.num < 0)) (dig x.num.natAbs) (dig x.den) (by unfold lN at nx; omega) (by rw [lN_nat'] at dx; omega)
  rwa [qv_eQ] at this
theorem raw_of_e2 {P : Program} {f : FuncId} {r : Rat → Rat → TV} {x y : Rat} {n : Nat} (hx : lQ x < n) (hy : lQ y < n) (h : ∀ (s : Bool) (a d : List Nat) (t : Bool) (b e : List Nat), a.length < n → d.length < n → b.length < n → e.length < n → PCall P f [gQ s a d, gQ t b e] (r (qv s a d) (qv t b e))) : PCall P f [eQ x, eQ y] (r x y) := by
  have nx := lQ_num x
  have dx := lQ_den x
  have ny := lQ_num y
  have dy := lQ_den y
  have := h (decide (x.num < 0)) (dig x.num.natAbs) (dig x.den) (decide (y.num < 0)) (dig y.num.natAbs) (dig y.den) (by unfold lN at nx; omega) (by rw [lN_nat'] at dx; omega) (by unfold lN at ny; omega) (by rw [lN_nat'] at dy; omega)
  rwa [qv_eQ, qv_eQ] at this
theorem divInt_add (x y : Rat) : Rat.divInt (x.num * y.den + y.num * x.den) ((x.den : Int) * y.den) = x + y := by
  rw [Rat.add_def', ← Int.natCast_mul, Rat.divInt_ofNat]
theorem divInt_mul (x y : Rat) : Rat.divInt (x.num * y.num) ((x.den : Int) * y.den) = x * y := by
  rw [Rat.mul_def', ← Int.natCast_mul, Rat.divInt_ofNat]
theorem divInt_div (x y : Rat) : Rat.divInt (x.num * y.den) ((x.den : Int) * y.num) = x / y := by
  rw [Rat.div_def, ← Rat.divInt_mul_divInt, Rat.num_divInt_den]
  congr 1
  exact (Rat.inv_def y).symm
set_option maxRecDepth 100000 in
theorem r_AddRat (s : Bool) (a d : List Nat) (t : Bool) (b e : List Nat) (ha : a.length < 1900000000) (hd : d.length < 1900000000) (hb : b.length < 1900000000) (he : e.length < 1900000000) : PCall Tryz.prog 28 [gQ s a d, gQ t b e] (eQ (qv s a d + qv t b e)) := by
  refine pcall_of_wpA mixed Tryz.call28 Tryz.func28 rfl Tryz.ntmps28 Tryz.results28 (by simp) (by decide) ?_
  have h1 := r_MayRat s a d (by omega) (by omega)
  have h2 := r_MayRat t b e (by omega) (by omega)
  have lx := lQ_qv s a d
  have ly := lQ_qv t b e
  generalize qv s a d = x at *
  generalize qv t b e = y at *
  have nx := lQ_num x
  have ny := lQ_num y
  have dx := lQ_den x
  have dy := lQ_den y
  have d1 := r_den_e x
  have d2 := r_den_e y
  have m1 := i_Mul_e x.num y.den (by omega) (by omega)
  have m2 := i_Mul_e y.num x.den (by omega) (by omega)
  have m3 := i_Mul_e x.den y.den (by omega) (by omega)
  have k1 := lN_mul x.num y.den
  have k2 := lN_mul y.num x.den
  have k3 := lN_mul x.den y.den
  have k4 := lN_add (x.num * y.den) (y.num * x.den)
  have ad := i_Add_e (x.num * y.den) (y.num * x.den) (by omega) (by omega)
  have o := r_RatOf_e (x.num * y.den + y.num * x.den) ((x.den : Int) * y.den) (by omega) (by omega)
  rw [divInt_add] at o
  simp only [go_sem]
  (repeat (first | (refine regA_by 0 rfl ?_; simp only [go_sem]) | (refine call_pure (h1) rfl ?_; simp only [go_sem]) | (refine call_pure (h2) rfl ?_; simp only [go_sem]) | (refine call_pure (d1) rfl ?_; simp only [go_sem]) | (refine call_pure (d2) rfl ?_; simp only [go_sem]) | (refine call_pure (m1) rfl ?_; simp only [go_sem]) | (refine call_pure (m2) rfl ?_; simp only [go_sem]) | (refine call_pure (m3) rfl ?_; simp only [go_sem]) | (refine call_pure (ad) rfl ?_; simp only [go_sem]) | (refine call_pure (o) rfl ?_; simp only [go_sem])))
  exact fz_agg3 .t .t .t
theorem r_AddRat_e (x y : Rat) (hx : lQ x < 1900000000) (hy : lQ y < 1900000000) : PCall Tryz.prog 28 [eQ x, eQ y] (eQ (x + y)) := raw_of_e2 (r := fun x y => eQ (x + y)) hx hy fun s a d t b e h1 h2 h3 h4 => r_AddRat s a d t b e h1 h2 h3 h4
set_option maxRecDepth 100000 in
theorem r_MulRat (s : Bool) (a d : List Nat) (t : Bool) (b e : List Nat) (ha : a.length < 1900000000) (hd : d.length < 1900000000) (hb : b.length < 1900000000) (he : e.length < 1900000000) : PCall Tryz.prog 29 [gQ s a d, gQ t b e] (eQ (qv s a d * qv t b e)) := by
  refine pcall_of_wpA mixed Tryz.call29 Tryz.func29 rfl Tryz.ntmps29 Tryz.results29 (by simp) (by decide) ?_
  have h1 := r_MayRat s a d (by omega) (by omega)
  have h2 := r_MayRat t b e (by omega) (by omega)
  have lx := lQ_qv s a d
  have ly := lQ_qv t b e
  generalize qv s a d = x at *
  generalize qv t b e = y at *
  have nx := lQ_num x
  have ny := lQ_num y
  have dx := lQ_den x
  have dy := lQ_den y
  have d1 := r_den_e x
  have d2 := r_den_e y
  have m1 := i_Mul_e x.num y.num (by omega) (by omega)
  have m3 := i_Mul_e x.den y.den (by omega) (by omega)
  have k1 := lN_mul x.num y.num
  have k3 := lN_mul x.den y.den
  have o := r_RatOf_e (x.num * y.num) ((x.den : Int) * y.den) (by omega) (by omega)
  rw [divInt_mul] at o
  simp only [go_sem]
  (repeat (first | (refine regA_by 0 rfl ?_; simp only [go_sem]) | (refine call_pure (h1) rfl ?_; simp only [go_sem]) | (refine call_pure (h2) rfl ?_; simp only [go_sem]) | (refine call_pure (d1) rfl ?_; simp only [go_sem]) | (refine call_pure (d2) rfl ?_; simp only [go_sem]) | (refine call_pure (m1) rfl ?_; simp only [go_sem]) | (refine call_pure (m3) rfl ?_; simp only [go_sem]) | (refine call_pure (o) rfl ?_; simp only [go_sem])))
  exact fz_agg3 .t .t .t
theorem r_MulRat_e (x y : Rat) (hx : lQ x < 1900000000) (hy : lQ y < 1900000000) : PCall Tryz.prog 29 [eQ x, eQ y] (eQ (x * y)) := raw_of_e2 (r := fun x y => eQ (x * y)) hx hy fun s a d t b e h1 h2 h3 h4 => r_MulRat s a d t b e h1 h2 h3 h4
end Go.Proofs.YtjmbhknhiakkpaaGreat
namespace Go.Proofs.YtjmbhknhiakkpaaGreat
open Go Go.Abs
set_option maxHeartbeats 8000000
/-! ### Fractions in slices -/
abbrev QQ := Bool × List Nat × List Nat
def cQ (q : QQ) : List T := [.lit (.bool q.1), eN q.2.1, eN q.2.2]
theorem cQ_len (q : QQ) : (cQ q).length = 3 := rfl
abbrev tLQ (l : List QQ) : TV := .one (eL cQ l)
abbrev aLQ (l : List QQ) : AV := .one (.t (eL cQ l))
/-- A fraction as it is kept, in a slice. -/
def cR (x : Rat) : List T := [.lit (.bool (decide (x.num < 0))), eN (dig x.num.natAbs), eN (dig x.den)]
theorem cR_len (x : Rat) : (cR x).length = 3 := rfl
abbrev tLR (l : List Rat) : TV := .one (eL cR l)
abbrev aLR (l : List Rat) : AV := .one (.t (eL cR l))
attribute [go_sem] cQ cR
def qQ (q : QQ) : Rat := qv q.1 q.2.1 q.2.2
def rawQ (x : Rat) : QQ := (decide (x.num < 0), dig x.num.natAbs, dig x.den)
theorem qQ_raw (x : Rat) : qQ (rawQ x) = x := qv_eQ x
theorem eL_raw (l : List Rat) : eL cQ (l.map rawQ) = eL cR l := by unfold eL; rw [List.map_map]; rfl
theorem cR_sd {ys : List Rat} {i : Nat} (hi : i < ys.length) {q : Rat} : (cellsL cR ys).take (i * 3) ++ C.t (.lit (.bool (decide (q.num < 0)))) :: C.t (eN (dig q.num.natAbs)) :: C.t (eN (dig q.den)) :: (cellsL cR ys).drop (i * 3 + 3) = cellsL cR (ys.set i q) := by
  have := cellsL_set (f := cR) (sz := 3) cR_len hi (y := q)
  rw [← this]; simp [setCs, cR]
theorem cR_clen {ys : List Rat} : (cellsL cR ys).length = ys.length * 3 := cellsL_length cR_len
theorem cR_at {ys : List Rat} {i : Nat} (hi : i < ys.length) : (cellsL cR ys).drop (i * 3) = (cR ys[i]).map .t ++ cellsL cR (ys.drop (i + 1)) := cellsL_at cR_len hi
/-! ### Slices of fractions that are made -/
abbrev z3 : List C := [.t (.lit (.bool false)), .t (.seq (some true) []), .t (.seq (some true) [])]
/-- What a new slice holds is told as weak cells. -/
def cW (_ : Unit) : List T := [.lit (.bool false), eN [], eN []]
/-- Cells told so far, behind them noughts of memory. -/
def cZ (q : Option Rat) : List T := match q with | some x => cR x | none => [.lit (.bool false), eN [], eN []]
theorem cZ_len (q : Option Rat) : (cZ q).length = 3 := by cases q <;> rfl
theorem cZ_some {x : Rat} : cZ (some x) = cR x := rfl
theorem weakL_z3 : ∀ n : Nat, WeakL (repl n z3) (cellsL cZ (List.replicate n none))
  | 0 => .nil
  | n + 1 => by
    have ih := weakL_z3 n
    unfold repl at ih ⊢
    rw [List.replicate_succ, List.replicate_succ, List.flatten_cons, cellsL_cons]
    exact .cons .refl (.cons .seq (.cons .seq ih))
theorem cZ_map (l : List Rat) : cellsL cZ (l.map some) = cellsL cR l := by
  unfold cellsL; rw [List.map_map]; rfl
theorem cZ_sd {ys : List (Option Rat)} {i : Nat} (hi : i < ys.length) {q : Rat} : (cellsL cZ ys).take (i * 3) ++ C.t (.lit (.bool (decide (q.num < 0)))) :: C.t (eN (dig q.num.natAbs)) :: C.t (eN (dig q.den)) :: (cellsL cZ ys).drop (i * 3 + 3) = cellsL cZ (ys.set i (some q)) := by
  have := cellsL_set (f := cZ) (sz := 3) cZ_len hi (y := some q)
  rw [← this]; simp [setCs, cZ, cR]
theorem cZ_clen {ys : List (Option Rat)} : (cellsL cZ ys).length = ys.length * 3 := cellsL_length cZ_len
theorem fill_next {l : List Rat} {n i : Nat} (hi : i < l.length) (hn : l.length ≤ n) : ((l.take i).map some ++ List.replicate (n - i) none).set i (some l[i]) = (l.take (i + 1)).map some ++ List.replicate (n - (i + 1)) none := by
  rw [List.set_append, if_neg (by simp; omega), show i - ((l.take i).map some).length = 0 by simp; omega, show n - i = (n - (i + 1)) + 1 by omega, List.replicate_succ, List.set_cons_zero, take_snoc hi, List.map_append, List.append_assoc]; rfl
theorem q_Of1_e (p : Int) (ha : lN p < 1000000000000) : PCall Tryz.prog 61 [eI p] (eQ (p : Rat)) := by
  have := q_Of1 (decide (p < 0)) (dig p.natAbs) ha; rwa [iv_eI] at this
end Go.Proofs.YtjmbhknhiakkpaaGreat
