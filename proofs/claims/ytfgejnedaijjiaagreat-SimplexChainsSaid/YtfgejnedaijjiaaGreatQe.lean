/- At every input the call answers true and leaves its arguments as they were; no conditions. -/
import Derived.Test.YtfgejnedaijjiaaGreatQc
set_option linter.unusedSimpArgs false
set_option linter.unusedVariables false
namespace Go.Proofs.YtfgejnedaijjiaaGreat
open Go Go.Abs
set_option maxHeartbeats 4000000
/-! ### The reference's fractions -/
theorem e0nat (m : Nat) : eI (m : Int) = gI false (dig m) := by unfold eI; rw [decide_eq_false (by omega)]; rfl
set_option maxRecDepth 100000 in
theorem r_den (s : Bool) (a d : List Nat) : PCall Tryz.prog 67 [gQ s a d] (gI false d) := by
  refine pcall_of_wpA mixed Tryz.call67 Tryz.func67 rfl Tryz.ntmps67 Tryz.results67 (by simp) (by decide) ?_
  simp only [go_sem]
  try exact fz_agg2 .t .t
theorem r_den_e (x : Rat) : PCall Tryz.prog 67 [eQ x] (eI (x.den : Int)) := by
  rw [e0nat]; exact r_den _ _ _
set_option maxRecDepth 100000 in
theorem r_RatInt (s : Bool) (a : List Nat) (ha : a.length < 4000) : PCall Tryz.prog 23 [gI s a] (eQ ((iv s a : Int) : Rat)) := by
  refine pcall_of_wpA mixed Tryz.call23 Tryz.func23 rfl Tryz.ntmps23 Tryz.results23 (by simp) (by decide) ?_
  have h := i_May s a (by omega)
  rw [eQ_int]
  simp only [go_sem]
  ((repeat (refine regA_by 0 rfl ?_; simp only [go_sem])); refine call_pure (h) rfl ?_; simp only [go_sem]; (repeat (refine regA_by 0 rfl ?_; simp only [go_sem])))
  exact fz_agg3 .t .t .weak
theorem r_RatInt_e (p : Int) (ha : lN p < 4000) : PCall Tryz.prog 23 [eI p] (eQ (p : Rat)) := by
  have := r_RatInt (decide (p < 0)) (dig p.natAbs) ha; rwa [iv_eI] at this
theorem r_RatInt_0 : PCall Tryz.prog 23 [gI0] (eQ 0) := by
  have := r_RatInt false [] (by simp)
  rw [show ((iv false [] : Int) : Rat) = 0 by rw [show iv false [] = 0 by decide]; rfl] at this
  exact this.fz (.cons (fz_agg2 .t .weak) .nil)
set_option maxRecDepth 100000 in
theorem r_NegRat (s : Bool) (a d : List Nat) (ha : a.length < 4000) (hd : d.length < 4000) : PCall Tryz.prog 133 [gQ s a d] (eQ (-(qv s a d))) := by
  refine pcall_of_wpA mixed Tryz.call133 Tryz.func133 rfl Tryz.ntmps133 Tryz.results133 (by simp) (by decide) ?_
  have h1 := r_MayRat s a d ha hd
  have lx := lQ_qv s a d
  generalize qv s a d = x at *
  have nx := lQ_num x
  have h2 := i_Neg_e x.num (by omega)
  have e : eQ (-x) = gQ (decide (-x.num < 0)) (dig (-x.num).natAbs) (dig x.den) := by unfold eQ; rw [Rat.neg_num, Rat.neg_den]
  rw [e]
  simp only [go_sem]
  ((repeat (refine regA_by 0 rfl ?_; simp only [go_sem])); refine call_pure (h1) rfl ?_; simp only [go_sem]; (repeat (refine regA_by 0 rfl ?_; simp only [go_sem])); refine call_pure (h2) rfl ?_; simp only [go_sem]; (repeat (refine regA_by 0 rfl ?_; simp only [go_sem])))
  exact fz_agg3 .t .t .t
theorem raw_of_e {P : Program} {f : FuncId} {r : Rat → TV} {x : Rat} {n : Nat} (hx : lQ x < n) (h : ∀ (s : Bool) (a d : List Nat), a.length < n → d.length < n → PCall P f [gQ s a d] (r (qv s a d))) : PCall P f [eQ x] (r x) := by
  have nx := lQ_num x
  have dx := lQ_den x
  have := h (decide (x.num < 0)) (dig x.num.natAbs) (dig x.den) (by unfold lN at nx; omega) (by rw [lN_nat'] at dx; omega)
  rwa [qv_eQ] at this
theorem raw_of_e2 {P : Program} {f : FuncId} {r : Rat → Rat → TV} {x y : Rat} {n : Nat} (hx : lQ x < n) (hy : lQ y < n) (h : ∀ (s : Bool) (a d : List Nat) (t : Bool) (b e : List Nat), a.length < n → d.length < n → b.length < n → e.length < n → PCall P f [gQ s a d, gQ t b e] (r (qv s a d) (qv t b e))) : PCall P f [eQ x, eQ y] (r x y) := by
  have nx := lQ_num x
  have dx := lQ_den x
  have ny := lQ_num y
  have dy := lQ_den y
  have := h (decide (x.num < 0)) (dig x.num.natAbs) (dig x.den) (decide (y.num < 0)) (dig y.num.natAbs) (dig y.den) (by unfold lN at nx; omega) (by rw [lN_nat'] at dx; omega) (by unfold lN at ny; omega) (by rw [lN_nat'] at dy; omega)
  rwa [qv_eQ, qv_eQ] at this
theorem r_NegRat_e (x : Rat) (hx : lQ x < 4000) : PCall Tryz.prog 133 [eQ x] (eQ (-x)) := raw_of_e (r := fun x => eQ (-x)) hx fun s a d h1 h2 => r_NegRat s a d h1 h2
set_option maxRecDepth 100000 in
theorem r_CmpRat (s : Bool) (a d : List Nat) (t : Bool) (b e : List Nat) (ha : a.length < 4000) (hd : d.length < 4000) (hb : b.length < 4000) (he : e.length < 4000) : PCall Tryz.prog 21 [gQ s a d, gQ t b e] (tI .i64 (cmpQ (qv s a d) (qv t b e))) := by
  refine pcall_of_wpA mixed Tryz.call21 Tryz.func21 rfl Tryz.ntmps21 Tryz.results21 (by simp) (by decide) ?_
  have h1 := r_MayRat s a d ha hd
  have h2 := r_MayRat t b e hb he
  have lx := lQ_qv s a d
  have ly := lQ_qv t b e
  generalize qv s a d = x at *
  generalize qv t b e = y at *
  have nx := lQ_num x
  have ny := lQ_num y
  have dx := lQ_den x
  have dy := lQ_den y
  have d1 := r_den_e x
  have d2 := r_den_e y
  have m1 := i_Mul_e x.num y.den (by omega) (by omega)
  have m2 := i_Mul_e y.num x.den (by omega) (by omega)
  have k1 := lN_mul x.num y.den
  have k2 := lN_mul y.num x.den
  have c := i_Cmp_e (x.num * y.den) (y.num * x.den) (by omega) (by omega)
  rw [← cmpQ_cross] at c
  simp only [go_sem]
  (repeat (first | (refine regA_by 0 rfl ?_; simp only [go_sem]) | (refine call_pure (h1) rfl ?_; simp only [go_sem]) | (refine call_pure (h2) rfl ?_; simp only [go_sem]) | (refine call_pure (d1) rfl ?_; simp only [go_sem]) | (refine call_pure (d2) rfl ?_; simp only [go_sem]) | (refine call_pure (m1) rfl ?_; simp only [go_sem]) | (refine call_pure (m2) rfl ?_; simp only [go_sem]) | (refine call_pure (c) rfl ?_; simp only [go_sem])))
theorem r_CmpRat_e (x y : Rat) (hx : lQ x < 4000) (hy : lQ y < 4000) : PCall Tryz.prog 21 [eQ x, eQ y] (tI .i64 (cmpQ x y)) := raw_of_e2 (r := fun x y => tI .i64 (cmpQ x y)) hx hy fun s a d t b e h1 h2 h3 h4 => r_CmpRat s a d t b e h1 h2 h3 h4
theorem divInt_add (x y : Rat) : Rat.divInt (x.num * y.den + y.num * x.den) ((x.den : Int) * y.den) = x + y := by
  rw [Rat.add_def', ← Int.natCast_mul, Rat.divInt_ofNat]
theorem divInt_mul (x y : Rat) : Rat.divInt (x.num * y.num) ((x.den : Int) * y.den) = x * y := by
  rw [Rat.mul_def', ← Int.natCast_mul, Rat.divInt_ofNat]
theorem divInt_div (x y : Rat) : Rat.divInt (x.num * y.den) ((x.den : Int) * y.num) = x / y := by
  rw [Rat.div_def, ← Rat.divInt_mul_divInt, Rat.num_divInt_den]
  congr 1
  exact (Rat.inv_def y).symm
set_option maxRecDepth 100000 in
theorem r_AddRat (s : Bool) (a d : List Nat) (t : Bool) (b e : List Nat) (ha : a.length < 1900) (hd : d.length < 1900) (hb : b.length < 1900) (he : e.length < 1900) : PCall Tryz.prog 61 [gQ s a d, gQ t b e] (eQ (qv s a d + qv t b e)) := by
  refine pcall_of_wpA mixed Tryz.call61 Tryz.func61 rfl Tryz.ntmps61 Tryz.results61 (by simp) (by decide) ?_
  have h1 := r_MayRat s a d (by omega) (by omega)
  have h2 := r_MayRat t b e (by omega) (by omega)
  have lx := lQ_qv s a d
  have ly := lQ_qv t b e
  generalize qv s a d = x at *
  generalize qv t b e = y at *
  have nx := lQ_num x
  have ny := lQ_num y
  have dx := lQ_den x
  have dy := lQ_den y
  have d1 := r_den_e x
  have d2 := r_den_e y
  have m1 := i_Mul_e x.num y.den (by omega) (by omega)
  have m2 := i_Mul_e y.num x.den (by omega) (by omega)
  have m3 := i_Mul_e x.den y.den (by omega) (by omega)
  have k1 := lN_mul x.num y.den
  have k2 := lN_mul y.num x.den
  have k3 := lN_mul x.den y.den
  have k4 := lN_add (x.num * y.den) (y.num * x.den)
  have ad := i_Add_e (x.num * y.den) (y.num * x.den) (by omega) (by omega)
  have o := r_RatOf_e (x.num * y.den + y.num * x.den) ((x.den : Int) * y.den) (by omega) (by omega)
  rw [divInt_add] at o
  simp only [go_sem]
  (repeat (first | (refine regA_by 0 rfl ?_; simp only [go_sem]) | (refine call_pure (h1) rfl ?_; simp only [go_sem]) | (refine call_pure (h2) rfl ?_; simp only [go_sem]) | (refine call_pure (d1) rfl ?_; simp only [go_sem]) | (refine call_pure (d2) rfl ?_; simp only [go_sem]) | (refine call_pure (m1) rfl ?_; simp only [go_sem]) | (refine call_pure (m2) rfl ?_; simp only [go_sem]) | (refine call_pure (m3) rfl ?_; simp only [go_sem]) | (refine call_pure (ad) rfl ?_; simp only [go_sem]) | (refine call_pure (o) rfl ?_; simp only [go_sem])))
  exact fz_agg3 .t .t .t
theorem r_AddRat_e (x y : Rat) (hx : lQ x < 1900) (hy : lQ y < 1900) : PCall Tryz.prog 61 [eQ x, eQ y] (eQ (x + y)) := raw_of_e2 (r := fun x y => eQ (x + y)) hx hy fun s a d t b e h1 h2 h3 h4 => r_AddRat s a d t b e h1 h2 h3 h4
set_option maxRecDepth 100000 in
theorem r_MulRat (s : Bool) (a d : List Nat) (t : Bool) (b e : List Nat) (ha : a.length < 1900) (hd : d.length < 1900) (hb : b.length < 1900) (he : e.length < 1900) : PCall Tryz.prog 22 [gQ s a d, gQ t b e] (eQ (qv s a d * qv t b e)) := by
  refine pcall_of_wpA mixed Tryz.call22 Tryz.func22 rfl Tryz.ntmps22 Tryz.results22 (by simp) (by decide) ?_
  have h1 := r_MayRat s a d (by omega) (by omega)
  have h2 := r_MayRat t b e (by omega) (by omega)
  have lx := lQ_qv s a d
  have ly := lQ_qv t b e
  generalize qv s a d = x at *
  generalize qv t b e = y at *
  have nx := lQ_num x
  have ny := lQ_num y
  have dx := lQ_den x
  have dy := lQ_den y
  have d1 := r_den_e x
  have d2 := r_den_e y
  have m1 := i_Mul_e x.num y.num (by omega) (by omega)
  have m3 := i_Mul_e x.den y.den (by omega) (by omega)
  have k1 := lN_mul x.num y.num
  have k3 := lN_mul x.den y.den
  have o := r_RatOf_e (x.num * y.num) ((x.den : Int) * y.den) (by omega) (by omega)
  rw [divInt_mul] at o
  simp only [go_sem]
  (repeat (first | (refine regA_by 0 rfl ?_; simp only [go_sem]) | (refine call_pure (h1) rfl ?_; simp only [go_sem]) | (refine call_pure (h2) rfl ?_; simp only [go_sem]) | (refine call_pure (d1) rfl ?_; simp only [go_sem]) | (refine call_pure (d2) rfl ?_; simp only [go_sem]) | (refine call_pure (m1) rfl ?_; simp only [go_sem]) | (refine call_pure (m3) rfl ?_; simp only [go_sem]) | (refine call_pure (o) rfl ?_; simp only [go_sem])))
  exact fz_agg3 .t .t .t
theorem r_MulRat_e (x y : Rat) (hx : lQ x < 1900) (hy : lQ y < 1900) : PCall Tryz.prog 22 [eQ x, eQ y] (eQ (x * y)) := raw_of_e2 (r := fun x y => eQ (x * y)) hx hy fun s a d t b e h1 h2 h3 h4 => r_MulRat s a d t b e h1 h2 h3 h4
set_option maxRecDepth 100000 in
theorem r_FloorRat (s : Bool) (a d : List Nat) (ha : a.length < 4000) (hd : d.length < 4000) : PCall Tryz.prog 39 [gQ s a d] (eI (qv s a d).floor) := by
  refine pcall_of_wpA mixed Tryz.call39 Tryz.func39 rfl Tryz.ntmps39 Tryz.results39 (by simp) (by decide) ?_
  have h1 := r_MayRat s a d ha hd
  have lx := lQ_qv s a d
  generalize qv s a d = x at *
  have nx := lQ_num x
  have dx := lQ_den x
  have d1 := r_den_e x
  have f := i_Floor_e x.num x.den (by omega) (by omega)
  rw [← floor_fdiv] at f
  simp only [go_sem]
  (repeat (first | (refine regA_by 0 rfl ?_; simp only [go_sem]) | (refine call_pure (h1) rfl ?_; simp only [go_sem]) | (refine call_pure (d1) rfl ?_; simp only [go_sem]) | (refine call_pure (f) rfl ?_; simp only [go_sem])))
  try exact fz_agg2 .t .t
theorem r_FloorRat_e (x : Rat) (hx : lQ x < 4000) : PCall Tryz.prog 39 [eQ x] (eI x.floor) := raw_of_e (r := fun x => eI x.floor) hx fun s a d h1 h2 => r_FloorRat s a d h1 h2
set_option maxRecDepth 100000 in
theorem r_CeilRat (s : Bool) (a d : List Nat) (ha : a.length < 1900) (hd : d.length < 1900) : PCall Tryz.prog 90 [gQ s a d] (eI (-(-(qv s a d)).floor)) := by
  refine pcall_of_wpA mixed Tryz.call90 Tryz.func90 rfl Tryz.ntmps90 Tryz.results90 (by simp) (by decide) ?_
  have h1 := r_NegRat s a d (by omega) (by omega)
  have lx := lQ_qv s a d
  generalize qv s a d = x at *
  have h2 := r_FloorRat_e (-x) (by rw [lQ_neg]; omega)
  have k1 := lN_floor (-x)
  have k2 := lQ_num (-x)
  rw [lQ_neg] at k2
  have h3 := i_Neg_e (-x).floor (by omega)
  simp only [go_sem]
  ((repeat (refine regA_by 0 rfl ?_; simp only [go_sem])); refine call_pure (h1) rfl ?_; simp only [go_sem]; (repeat (refine regA_by 0 rfl ?_; simp only [go_sem])); refine call_pure (h2) rfl ?_; simp only [go_sem]; (repeat (refine regA_by 0 rfl ?_; simp only [go_sem])); refine call_pure (h3) rfl ?_; simp only [go_sem]; (repeat (refine regA_by 0 rfl ?_; simp only [go_sem])))
  try exact fz_agg2 .t .t
end Go.Proofs.YtfgejnedaijjiaaGreat
