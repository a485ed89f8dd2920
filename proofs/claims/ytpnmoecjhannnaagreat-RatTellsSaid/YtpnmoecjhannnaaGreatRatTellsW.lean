/- At every input the call answers true and leaves its arguments as they were; no conditions. -/
import Derived.Test.YtpnmoecjhannnaaGreatQc
import Derived.Test.YtpnmoecjhannnaaGreatQd
set_option linter.unusedSimpArgs false
set_option linter.unusedVariables false
namespace Go.Proofs.YtpnmoecjhannnaaGreat
open Go Go.Abs
set_option maxHeartbeats 4000000
/-! ### The reference's fractions -/
theorem e0nat (m : Nat) : eI (m : Int) = gI false (dig m) := by unfold eI; rw [decide_eq_false (by omega)]; rfl
set_option maxRecDepth 100000 in
theorem r_den (s : Bool) (a d : List Nat) : PCall Tryz.prog 44 [gQ s a d] (gI false d) := by
  refine pcall_of_wpA mixed Tryz.call44 Tryz.func44 rfl Tryz.ntmps44 Tryz.results44 (by simp) (by decide) ?_
  simp only [go_sem]
  try exact fz_agg2 .t .t
theorem r_den_e (x : Rat) : PCall Tryz.prog 44 [eQ x] (eI (x.den : Int)) := by
  rw [e0nat]; exact r_den _ _ _
set_option maxRecDepth 100000 in
theorem r_RatInt (s : Bool) (a : List Nat) (ha : a.length < 1000) : PCall Tryz.prog 15 [gI s a] (eQ ((iv s a : Int) : Rat)) := by
  refine pcall_of_wpA mixed Tryz.call15 Tryz.func15 rfl Tryz.ntmps15 Tryz.results15 (by simp) (by decide) ?_
  have h := i_May s a (by omega)
  rw [eQ_int]
  simp only [go_sem]
  ((repeat (refine regA_by 0 rfl ?_; simp only [go_sem])); refine call_pure (h) rfl ?_; simp only [go_sem]; (repeat (refine regA_by 0 rfl ?_; simp only [go_sem])))
  exact fz_agg3 .t .t .weak
theorem r_RatInt_e (p : Int) (ha : lN p < 1000) : PCall Tryz.prog 15 [eI p] (eQ (p : Rat)) := by
  have := r_RatInt (decide (p < 0)) (dig p.natAbs) ha; rwa [iv_eI] at this
theorem r_RatInt_0 : PCall Tryz.prog 15 [gI0] (eQ 0) := by
  have := r_RatInt false [] (by simp)
  rw [show ((iv false [] : Int) : Rat) = 0 by rw [show iv false [] = 0 by decide]; rfl] at this
  exact this.fz (.cons (fz_agg2 .t .weak) .nil)
set_option maxRecDepth 100000 in
theorem r_NegRat (s : Bool) (a d : List Nat) (ha : a.length < 1000) (hd : d.length < 1000) : PCall Tryz.prog 21 [gQ s a d] (eQ (-(qv s a d))) := by
  refine pcall_of_wpA mixed Tryz.call21 Tryz.func21 rfl Tryz.ntmps21 Tryz.results21 (by simp) (by decide) ?_
  have h1 := r_MayRat s a d ha hd
  have lx := lQ_qv s a d
  generalize qv s a d = x at *
  have nx := lQ_num x
  have h2 := i_Neg_e x.num (by omega)
  have e : eQ (-x) = gQ (decide (-x.num < 0)) (dig (-x.num).natAbs) (dig x.den) := by unfold eQ; rw [Rat.neg_num, Rat.neg_den]
  rw [e]
  simp only [go_sem]
  ((repeat (refine regA_by 0 rfl ?_; simp only [go_sem])); refine call_pure (h1) rfl ?_; simp only [go_sem]; (repeat (refine regA_by 0 rfl ?_; simp only [go_sem])); refine call_pure (h2) rfl ?_; simp only [go_sem]; (repeat (refine regA_by 0 rfl ?_; simp only [go_sem])))
  exact fz_agg3 .t .t .t
theorem raw_of_e {P : Program} {f : FuncId} {r : Rat → TV} {x : Rat} {n : Nat} (hx : lQ x < n) (h : ∀ (s : Bool) (a d : List Nat), a.length < n → d.length < n → PCall P f [gQ s a d] (r (qv s a d))) : PCall P f [eQ x] (r x) := by
  have nx := lQ_num x
  have dx := lQ_den x
  have := h (decide (x.num < 0)) (dig x.num.natAbs) (dig x.den) (by unfold lN at nx; omega) (by rw [lN_nat'] at dx; omega)
  rwa [qv_eQ] at this
theorem raw_of_e2 {P : Program} {f : FuncId} {r : Rat → Rat → TV} {x y : Rat} {n : Nat} (hx : lQ x < n) (hy : lQ y < n) (h : ∀ (s : Bool) (a d : List Nat) (t : Bool) (b e : List Nat), a.length < n → d.length < n → b.length < n → e.length < n → PCall P f [gQ s a d, gQ t b e] (r (qv s a d) (qv t b e))) : PCall P f [eQ x, eQ y] (r x y) := by
  have nx := lQ_num x
  have dx := lQ_den x
  have ny := lQ_num y
  have dy := lQ_den y
  have := h (decide (x.num < 0)) (dig x.num.natAbs) (dig x.den) (decide (y.num < 0)) (dig y.num.natAbs) (dig y.den) (by unfold lN at nx; omega) (by rw [lN_nat'] at dx; omega) (by unfold lN at ny; omega) (by rw [lN_nat'] at dy; omega)
  rwa [qv_eQ, qv_eQ] at this
theorem r_NegRat_e (x : Rat) (hx : lQ x < 1000) : PCall Tryz.prog 21 [eQ x] (eQ (-x)) := raw_of_e (r := fun x => eQ (-x)) hx fun s a d h1 h2 => r_NegRat s a d h1 h2
set_option maxRecDepth 100000 in
theorem r_CmpRat (s : Bool) (a d : List Nat) (t : Bool) (b e : List Nat) (ha : a.length < 1000) (hd : d.length < 1000) (hb : b.length < 1000) (he : e.length < 1000) : PCall Tryz.prog 17 [gQ s a d, gQ t b e] (tI .i64 (cmpQ (qv s a d) (qv t b e))) := by
  refine pcall_of_wpA mixed Tryz.call17 Tryz.func17 rfl Tryz.ntmps17 Tryz.results17 (by simp) (by decide) ?_
  have h1 := r_MayRat s a d ha hd
  have h2 := r_MayRat t b e hb he
  have lx := lQ_qv s a d
  have ly := lQ_qv t b e
  generalize qv s a d = x at *
  generalize qv t b e = y at *
  have nx := lQ_num x
  have ny := lQ_num y
  have dx := lQ_den x
  have dy := lQ_den y
  have d1 := r_den_e x
  have d2 := r_den_e y
  have m1 := i_Mul_e x.num y.den (by omega) (by omega)
  have m2 := i_Mul_e y.num x.den (by omega) (by omega)
  have k1 := lN_mul x.num y.den
  have k2 := lN_mul y.num x.den
  have c := i_Cmp_e (x.num * y.den) (y.num * x.den) (by omega) (by omega)
  rw [← cmpQ_cross] at c
  simp only [go_sem]
  (repeat (first | (refine regA_by 0 rfl ?_; simp only [go_sem]) | (refine call_pure (h1) rfl ?_; simp only [go_sem]) | (refine call_pure (h2) rfl ?_; simp only [go_sem]) | (refine call_pure (d1) rfl ?_; simp only [go_sem]) | (refine call_pure (d2) rfl ?_; simp only [go_sem]) | (refine call_pure (m1) rfl ?_; simp only [go_sem]) | (refine call_pure (m2) rfl ?_; simp only [go_sem]) | (refine call_pure (c) rfl ?_; simp only [go_sem])))
theorem r_CmpRat_e (x y : Rat) (hx : lQ x < 1000) (hy : lQ y < 1000) : PCall Tryz.prog 17 [eQ x, eQ y] (tI .i64 (cmpQ x y)) := raw_of_e2 (r := fun x y => tI .i64 (cmpQ x y)) hx hy fun s a d t b e h1 h2 h3 h4 => r_CmpRat s a d t b e h1 h2 h3 h4
theorem divInt_add (x y : Rat) : Rat.divInt (x.num * y.den + y.num * x.den) ((x.den : Int) * y.den) = x + y := by
  rw [Rat.add_def', ← Int.natCast_mul, Rat.divInt_ofNat]
theorem divInt_mul (x y : Rat) : Rat.divInt (x.num * y.num) ((x.den : Int) * y.den) = x * y := by
  rw [Rat.mul_def', ← Int.natCast_mul, Rat.divInt_ofNat]
theorem divInt_div (x y : Rat) : Rat.divInt (x.num * y.den) ((x.den : Int) * y.num) = x / y := by
  rw [Rat.div_def, ← Rat.divInt_mul_divInt, Rat.num_divInt_den]
  congr 1
  exact (Rat.inv_def y).symm
set_option maxRecDepth 100000 in
theorem r_AddRat (s : Bool) (a d : List Nat) (t : Bool) (b e : List Nat) (ha : a.length < 300) (hd : d.length < 300) (hb : b.length < 300) (he : e.length < 300) : PCall Tryz.prog 23 [gQ s a d, gQ t b e] (eQ (qv s a d + qv t b e)) := by
  refine pcall_of_wpA mixed Tryz.call23 Tryz.func23 rfl Tryz.ntmps23 Tryz.results23 (by simp) (by decide) ?_
  have h1 := r_MayRat s a d (by omega) (by omega)
  have h2 := r_MayRat t b e (by omega) (by omega)
  have lx := lQ_qv s a d
  have ly := lQ_qv t b e
  generalize qv s a d = x at *
  generalize qv t b e = y at *
  have nx := lQ_num x
  have ny := lQ_num y
  have dx := lQ_den x
  have dy := lQ_den y
  have d1 := r_den_e x
  have d2 := r_den_e y
  have m1 := i_Mul_e x.num y.den (by omega) (by omega)
  have m2 := i_Mul_e y.num x.den (by omega) (by omega)
  have m3 := i_Mul_e x.den y.den (by omega) (by omega)
  have k1 := lN_mul x.num y.den
  have k2 := lN_mul y.num x.den
  have k3 := lN_mul x.den y.den
  have k4 := lN_add (x.num * y.den) (y.num * x.den)
  have ad := i_Add_e (x.num * y.den) (y.num * x.den) (by omega) (by omega)
  have o := r_RatOf_e (x.num * y.den + y.num * x.den) ((x.den : Int) * y.den) (by omega) (by omega)
  rw [divInt_add] at o
  simp only [go_sem]
  (repeat (first | (refine regA_by 0 rfl ?_; simp only [go_sem]) | (refine call_pure (h1) rfl ?_; simp only [go_sem]) | (refine call_pure (h2) rfl ?_; simp only [go_sem]) | (refine call_pure (d1) rfl ?_; simp only [go_sem]) | (refine call_pure (d2) rfl ?_; simp only [go_sem]) | (refine call_pure (m1) rfl ?_; simp only [go_sem]) | (refine call_pure (m2) rfl ?_; simp only [go_sem]) | (refine call_pure (m3) rfl ?_; simp only [go_sem]) | (refine call_pure (ad) rfl ?_; simp only [go_sem]) | (refine call_pure (o) rfl ?_; simp only [go_sem])))
  exact fz_agg3 .t .t .t
theorem r_AddRat_e (x y : Rat) (hx : lQ x < 300) (hy : lQ y < 300) : PCall Tryz.prog 23 [eQ x, eQ y] (eQ (x + y)) := raw_of_e2 (r := fun x y => eQ (x + y)) hx hy fun s a d t b e h1 h2 h3 h4 => r_AddRat s a d t b e h1 h2 h3 h4
set_option maxRecDepth 100000 in
theorem r_MulRat (s : Bool) (a d : List Nat) (t : Bool) (b e : List Nat) (ha : a.length < 300) (hd : d.length < 300) (hb : b.length < 300) (he : e.length < 300) : PCall Tryz.prog 26 [gQ s a d, gQ t b e] (eQ (qv s a d * qv t b e)) := by
  refine pcall_of_wpA mixed Tryz.call26 Tryz.func26 rfl Tryz.ntmps26 Tryz.results26 (by simp) (by decide) ?_
  have h1 := r_MayRat s a d (by omega) (by omega)
  have h2 := r_MayRat t b e (by omega) (by omega)
  have lx := lQ_qv s a d
  have ly := lQ_qv t b e
  generalize qv s a d = x at *
  generalize qv t b e = y at *
  have nx := lQ_num x
  have ny := lQ_num y
  have dx := lQ_den x
  have dy := lQ_den y
  have d1 := r_den_e x
  have d2 := r_den_e y
  have m1 := i_Mul_e x.num y.num (by omega) (by omega)
  have m3 := i_Mul_e x.den y.den (by omega) (by omega)
  have k1 := lN_mul x.num y.num
  have k3 := lN_mul x.den y.den
  have o := r_RatOf_e (x.num * y.num) ((x.den : Int) * y.den) (by omega) (by omega)
  rw [divInt_mul] at o
  simp only [go_sem]
  (repeat (first | (refine regA_by 0 rfl ?_; simp only [go_sem]) | (refine call_pure (h1) rfl ?_; simp only [go_sem]) | (refine call_pure (h2) rfl ?_; simp only [go_sem]) | (refine call_pure (d1) rfl ?_; simp only [go_sem]) | (refine call_pure (d2) rfl ?_; simp only [go_sem]) | (refine call_pure (m1) rfl ?_; simp only [go_sem]) | (refine call_pure (m3) rfl ?_; simp only [go_sem]) | (refine call_pure (o) rfl ?_; simp only [go_sem])))
  exact fz_agg3 .t .t .t
theorem r_MulRat_e (x y : Rat) (hx : lQ x < 300) (hy : lQ y < 300) : PCall Tryz.prog 26 [eQ x, eQ y] (eQ (x * y)) := raw_of_e2 (r := fun x y => eQ (x * y)) hx hy fun s a d t b e h1 h2 h3 h4 => r_MulRat s a d t b e h1 h2 h3 h4
set_option maxRecDepth 100000 in
theorem r_DivRat (s : Bool) (a d : List Nat) (t : Bool) (b e : List Nat) (ha : a.length < 300) (hd : d.length < 300) (hb : b.length < 300) (he : e.length < 300) : PCall Tryz.prog 8 [gQ s a d, gQ t b e] (eQ (qv s a d / qv t b e)) := by
  refine pcall_of_wpA mixed Tryz.call8 Tryz.func8 rfl Tryz.ntmps8 Tryz.results8 (by simp) (by decide) ?_
  have h1 := r_MayRat s a d (by omega) (by omega)
  have h2 := r_MayRat t b e (by omega) (by omega)
  have lx := lQ_qv s a d
  have ly := lQ_qv t b e
  generalize qv s a d = x at *
  generalize qv t b e = y at *
  have nx := lQ_num x
  have ny := lQ_num y
  have dx := lQ_den x
  have dy := lQ_den y
  have d1 := r_den_e x
  have d2 := r_den_e y
  have m1 := i_Mul_e x.num y.den (by omega) (by omega)
  have m3 := i_Mul_e x.den y.num (by omega) (by omega)
  have k1 := lN_mul x.num y.den
  have k3 := lN_mul x.den y.num
  have o := r_RatOf_e (x.num * y.den) ((x.den : Int) * y.num) (by omega) (by omega)
  rw [divInt_div] at o
  simp only [go_sem]
  (repeat (first | (refine regA_by 0 rfl ?_; simp only [go_sem]) | (refine call_pure (h1) rfl ?_; simp only [go_sem]) | (refine call_pure (h2) rfl ?_; simp only [go_sem]) | (refine call_pure (d1) rfl ?_; simp only [go_sem]) | (refine call_pure (d2) rfl ?_; simp only [go_sem]) | (refine call_pure (m1) rfl ?_; simp only [go_sem]) | (refine call_pure (m3) rfl ?_; simp only [go_sem]) | (refine call_pure (o) rfl ?_; simp only [go_sem])))
  exact fz_agg3 .t .t .t
set_option maxRecDepth 100000 in
theorem r_FloorRat (s : Bool) (a d : List Nat) (ha : a.length < 1000) (hd : d.length < 1000) : PCall Tryz.prog 29 [gQ s a d] (eI (qv s a d).floor) := by
  refine pcall_of_wpA mixed Tryz.call29 Tryz.func29 rfl Tryz.ntmps29 Tryz.results29 (by simp) (by decide) ?_
  have h1 := r_MayRat s a d ha hd
  have lx := lQ_qv s a d
  generalize qv s a d = x at *
  have nx := lQ_num x
  have dx := lQ_den x
  have d1 := r_den_e x
  have f := i_Floor_e x.num x.den (by omega) (by omega)
  rw [← floor_fdiv] at f
  simp only [go_sem]
  (repeat (first | (refine regA_by 0 rfl ?_; simp only [go_sem]) | (refine call_pure (h1) rfl ?_; simp only [go_sem]) | (refine call_pure (d1) rfl ?_; simp only [go_sem]) | (refine call_pure (f) rfl ?_; simp only [go_sem])))
  try exact fz_agg2 .t .t
theorem r_FloorRat_e (x : Rat) (hx : lQ x < 1000) : PCall Tryz.prog 29 [eQ x] (eI x.floor) := raw_of_e (r := fun x => eI x.floor) hx fun s a d h1 h2 => r_FloorRat s a d h1 h2
set_option maxRecDepth 100000 in
theorem r_CeilRat (s : Bool) (a d : List Nat) (ha : a.length < 500) (hd : d.length < 500) : PCall Tryz.prog 31 [gQ s a d] (eI (-(-(qv s a d)).floor)) := by
  refine pcall_of_wpA mixed Tryz.call31 Tryz.func31 rfl Tryz.ntmps31 Tryz.results31 (by simp) (by decide) ?_
  have h1 := r_NegRat s a d (by omega) (by omega)
  have lx := lQ_qv s a d
  generalize qv s a d = x at *
  have h2 := r_FloorRat_e (-x) (by rw [lQ_neg]; omega)
  have k1 := lN_floor (-x)
  have k2 := lQ_num (-x)
  rw [lQ_neg] at k2
  have h3 := i_Neg_e (-x).floor (by omega)
  simp only [go_sem]
  ((repeat (refine regA_by 0 rfl ?_; simp only [go_sem])); refine call_pure (h1) rfl ?_; simp only [go_sem]; (repeat (refine regA_by 0 rfl ?_; simp only [go_sem])); refine call_pure (h2) rfl ?_; simp only [go_sem]; (repeat (refine regA_by 0 rfl ?_; simp only [go_sem])); refine call_pure (h3) rfl ?_; simp only [go_sem]; (repeat (refine regA_by 0 rfl ?_; simp only [go_sem])))
  try exact fz_agg2 .t .t
end Go.Proofs.YtpnmoecjhannnaaGreat
namespace Go.Proofs.YtpnmoecjhannnaaGreat
open Go Go.Abs
set_option maxHeartbeats 16000000
set_option maxRecDepth 100000 in
theorem p_RatTells (s : Bool) (a d : List Nat) (t : Bool) (b e : List Nat) (u : Bool) (p : List Nat) (v : Bool) (q : List Nat) : PCall Tryz.prog 3 [gQ s a d, gQ t b e, gI u p, gI v q] (tB true) := by
  have hk := known5
  by_cases f1 : a.length ≤ 4 ∧ d.length ≤ 4
  · have q1 := tB_of (few5 s a d) f1
    by_cases f2 : b.length ≤ 4 ∧ e.length ≤ 4
    · have q2 := tB_of (few5 t b e) f2
      by_cases f3 : p.length ≤ 5
      · have f3' : ((5 : Int) < (p.length : Int)) = False := eq_false (by omega)
        by_cases f4 : q.length ≤ 5
        · have f4' : ((5 : Int) < (q.length : Int)) = False := eq_false (by omega)
          have lx := lQ_qv s a d
          have ly := lQ_qv t b e
          have lp := lN_iv u p
          have lq := lN_iv v q
          have r1 := q_Div s a d t b e (by omega) (by omega) (by omega) (by omega)
          have r2 := r_SignRat t b e (by omega) (by omega)
          have r3 := r_DivRat s a d t b e (by omega) (by omega) (by omega) (by omega)
          have r4 := q_Is s a d (by omega) (by omega)
          have r5 := r_IsRat s a d (by omega) (by omega)
          have r6 := q_Of u p v q (by omega) (by omega)
          have r7 := r_RatOf u p v q (by omega) (by omega)
          have r9 := q_Int u p (by omega)
          have r10 := r_RatInt u p (by omega)
          have r12 := q_Cmp s a d t b e (by omega) (by omega) (by omega) (by omega)
          have r13 := r_CmpRat s a d t b e (by omega) (by omega) (by omega) (by omega)
          have r14 := q_Same s a d t b e (by omega) (by omega) (by omega) (by omega)
          have r15 := r_MayRat s a d (by omega) (by omega)
          have r16 := q_Neg s a d (by omega) (by omega)
          have r17 := r_NegRat s a d (by omega) (by omega)
          have r19 := q_Add s a d t b e (by omega) (by omega) (by omega) (by omega)
          have r20 := r_AddRat s a d t b e (by omega) (by omega) (by omega) (by omega)
          have r22 := q_Sub s a d t b e (by omega) (by omega) (by omega) (by omega)
          have r23 := r_NegRat t b e (by omega) (by omega)
          have r26 := q_Mul s a d t b e (by omega) (by omega) (by omega) (by omega)
          have r27 := r_MulRat s a d t b e (by omega) (by omega) (by omega) (by omega)
          have r29 := q_Floor s a d (by omega) (by omega)
          have r30 := r_FloorRat s a d (by omega) (by omega)
          have r32 := q_Ceil s a d (by omega) (by omega)
          have r33 := r_CeilRat s a d (by omega) (by omega)
          have r35 := q_Whole s a d (by omega) (by omega)
          have r24 : PCall Tryz.prog 23 [gQ s a d, eQ (-(qv t b e))] (eQ (qv s a d - qv t b e)) := by
            have ny := lQ_num (-(qv t b e))
            have dy := lQ_den (-(qv t b e))
            rw [lQ_neg] at ny dy
            have := r_AddRat s a d (decide ((-(qv t b e)).num < 0)) (dig (-(qv t b e)).num.natAbs) (dig (-(qv t b e)).den) (by omega) (by omega) (by unfold lN at ny; omega) (by rw [lN_nat'] at dy; omega)
            rw [qv_eQ] at this
            rwa [Rat.sub_eq_add_neg]
          generalize qv s a d = x at *
          generalize qv t b e = y at *
          generalize iv u p = P at *
          generalize iv v q = Q at *
          have ldi := lQ_divInt P Q
          have r8 := tB_of (r_EqualRat_e (Rat.divInt P Q) (Rat.divInt P Q) (by omega) (by omega)) rfl
          have lpi := lQ_int P
          have r11 := tB_of (r_EqualRat_e (P : Rat) (P : Rat) (by omega) (by omega)) rfl
          have r14 := tB_iff r14 cmpQ_eq.symm
          have r18 := tB_of (r_EqualRat_e (-x) (-x) (by rw [lQ_neg]; omega) (by rw [lQ_neg]; omega)) rfl
          have la := lQ_add x y
          have ls := lQ_sub x y
          have lm := lQ_mul x y
          have ld := lQ_div x y
          have r21 := tB_of (r_EqualRat_e (x + y) (x + y) (by omega) (by omega)) rfl
          have r25 := tB_of (r_EqualRat_e (x - y) (x - y) (by omega) (by omega)) rfl
          have r28 := tB_of (r_EqualRat_e (x * y) (x * y) (by omega) (by omega)) rfl
          have k1 := lN_floor x
          have k2 := lN_floor (-x)
          have k3 := lQ_num x
          have k4 := lQ_num (-x)
          rw [lQ_neg] at k4
          have k5 := lN_neg (-x).floor
          have r31 := tB_of (i_Equal_e x.floor x.floor (by omega) (by omega)) rfl
          have r34 := tB_of (i_Equal_e (-(-x).floor) (-(-x).floor) (by omega) (by omega)) rfl
          have nx := lQ_den x
          have r36 := r_SameNat (dig x.den) [1] (by rw [lN_nat'] at nx; omega) (by simp)
          have r36 := tB_iff r36 dig_one_iff
          have r36 : PCall Tryz.prog 33 [tN (dig x.den), .one (.seq (some false) [[.lit (.int .u32 1)]])] (tB (decide (x.den = 1))) := r36.fz (.cons (.one .t) (.cons (.one .weak) .nil))
          have r37 := tB_of (r_EqualRat_e (x / y) (x / y) (by omega) (by omega)) rfl
          generalize Rat.divInt P Q = D at *
          generalize (P : Rat) = P' at *
          generalize -(-x).floor = G at *
          generalize x.floor = F at *
          generalize cmpQ x y = C at *
          by_cases hy : y = 0
          · have hz : (0 : Rat).num.sign = 0 := rfl
            rw [if_pos hy] at r1
            rw [hy, hz] at r2
            have e0 : x / y = 0 := by rw [hy, Rat.div_def, Rat.inv_zero, Rat.mul_zero]
            rw [e0] at r1 r37
            have r37 : PCall Tryz.prog 11 [eQ 0, .agg [.lit (.bool false), .seq (some true) [], .seq (some false) [[.lit (.int .u32 1)]]]] (tB true) := by
              rw [eQ_zero] at r37 ⊢
              exact r37.fz (.cons (fz_agg3 .t .t .t) (.cons (fz_agg3 .t .weak .weak) .nil))
            refine pcall_of_wpA mixed Tryz.call3 Tryz.func3 rfl Tryz.ntmps3 Tryz.results3 (by simp) (by decide) ?_
            simp only [go_sem]
            (repeat (first | (refine regA_by 0 rfl ?_; simp only [go_sem, f3', f4', beq_self_eq_true]) | (refine call_pure (hk) rfl ?_; simp only [go_sem, f3', f4', beq_self_eq_true]) | (refine call_pure (q1) rfl ?_; simp only [go_sem, f3', f4', beq_self_eq_true]) | (refine call_pure (q2) rfl ?_; simp only [go_sem, f3', f4', beq_self_eq_true]) | (refine call_pure (r1) rfl ?_; simp only [go_sem, f3', f4', beq_self_eq_true]) | (refine call_pure (r2) rfl ?_; simp only [go_sem, f3', f4', beq_self_eq_true])))
            try simp only [List.append_eq, List.cons_append, List.nil_append]
            try (simp only [go_sem])
            (repeat (first | (refine regA_by 0 rfl ?_; simp only [go_sem, beq_self_eq_true]) | (refine call_pure (r4) rfl ?_; simp only [go_sem, beq_self_eq_true]) | (refine call_pure (r5) rfl ?_; simp only [go_sem, beq_self_eq_true]) | (refine call_pure (r6) rfl ?_; simp only [go_sem, beq_self_eq_true]) | (refine call_pure (r7) rfl ?_; simp only [go_sem, beq_self_eq_true]) | (refine call_pure (r8) rfl ?_; simp only [go_sem, beq_self_eq_true]) | (refine call_pure (r9) rfl ?_; simp only [go_sem, beq_self_eq_true]) | (refine call_pure (r10) rfl ?_; simp only [go_sem, beq_self_eq_true]) | (refine call_pure (r11) rfl ?_; simp only [go_sem, beq_self_eq_true]) | (refine call_pure (r12) rfl ?_; simp only [go_sem, beq_self_eq_true]) | (refine call_pure (r13) rfl ?_; simp only [go_sem, beq_self_eq_true]) | (refine call_pure (r14) rfl ?_; simp only [go_sem, beq_self_eq_true]) | (refine call_pure (r37) rfl ?_; simp only [go_sem, beq_self_eq_true]) | (refine call_pure (r15) rfl ?_; simp only [go_sem, beq_self_eq_true]) | (refine call_pure (r16) rfl ?_; simp only [go_sem, beq_self_eq_true]) | (refine call_pure (r17) rfl ?_; simp only [go_sem, beq_self_eq_true]) | (refine call_pure (r18) rfl ?_; simp only [go_sem, beq_self_eq_true]) | (refine call_pure (r19) rfl ?_; simp only [go_sem, beq_self_eq_true]) | (refine call_pure (r20) rfl ?_; simp only [go_sem, beq_self_eq_true]) | (refine call_pure (r21) rfl ?_; simp only [go_sem, beq_self_eq_true]) | (refine call_pure (r22) rfl ?_; simp only [go_sem, beq_self_eq_true]) | (refine call_pure (r23) rfl ?_; simp only [go_sem, beq_self_eq_true]) | (refine call_pure (r24) rfl ?_; simp only [go_sem, beq_self_eq_true]) | (refine call_pure (r25) rfl ?_; simp only [go_sem, beq_self_eq_true]) | (refine call_pure (r26) rfl ?_; simp only [go_sem, beq_self_eq_true]) | (refine call_pure (r27) rfl ?_; simp only [go_sem, beq_self_eq_true]) | (refine call_pure (r28) rfl ?_; simp only [go_sem, beq_self_eq_true]) | (refine call_pure (r29) rfl ?_; simp only [go_sem, beq_self_eq_true]) | (refine call_pure (r30) rfl ?_; simp only [go_sem, beq_self_eq_true]) | (refine call_pure (r31) rfl ?_; simp only [go_sem, beq_self_eq_true]) | (refine call_pure (r32) rfl ?_; simp only [go_sem, beq_self_eq_true]) | (refine call_pure (r33) rfl ?_; simp only [go_sem, beq_self_eq_true]) | (refine call_pure (r34) rfl ?_; simp only [go_sem, beq_self_eq_true]) | (refine call_pure (r35) rfl ?_; simp only [go_sem, beq_self_eq_true]) | (refine call_pure (r36) rfl ?_; simp only [go_sem, beq_self_eq_true])))
          · have hz := sign_ne (fun h => hy (Rat.num_eq_zero.1 h))
            rw [if_neg hy] at r1
            generalize y.num.sign = S at *
            refine pcall_of_wpA mixed Tryz.call3 Tryz.func3 rfl Tryz.ntmps3 Tryz.results3 (by simp) (by decide) ?_
            simp only [go_sem]
            (repeat (first | (refine regA_by 0 rfl ?_; simp only [go_sem, f3', f4', hz, beq_self_eq_true]) | (refine call_pure (hk) rfl ?_; simp only [go_sem, f3', f4', hz, beq_self_eq_true]) | (refine call_pure (q1) rfl ?_; simp only [go_sem, f3', f4', hz, beq_self_eq_true]) | (refine call_pure (q2) rfl ?_; simp only [go_sem, f3', f4', hz, beq_self_eq_true]) | (refine call_pure (r1) rfl ?_; simp only [go_sem, f3', f4', hz, beq_self_eq_true]) | (refine call_pure (r2) rfl ?_; simp only [go_sem, f3', f4', hz, beq_self_eq_true])))
            try simp only [List.append_eq, List.cons_append, List.nil_append]
            try (simp only [go_sem])
            (repeat (first | (refine regA_by 0 rfl ?_; simp only [go_sem, beq_self_eq_true]) | (refine call_pure (r3) rfl ?_; simp only [go_sem, beq_self_eq_true]) | (refine call_pure (r4) rfl ?_; simp only [go_sem, beq_self_eq_true]) | (refine call_pure (r5) rfl ?_; simp only [go_sem, beq_self_eq_true]) | (refine call_pure (r6) rfl ?_; simp only [go_sem, beq_self_eq_true]) | (refine call_pure (r7) rfl ?_; simp only [go_sem, beq_self_eq_true]) | (refine call_pure (r8) rfl ?_; simp only [go_sem, beq_self_eq_true]) | (refine call_pure (r9) rfl ?_; simp only [go_sem, beq_self_eq_true]) | (refine call_pure (r10) rfl ?_; simp only [go_sem, beq_self_eq_true]) | (refine call_pure (r11) rfl ?_; simp only [go_sem, beq_self_eq_true]) | (refine call_pure (r12) rfl ?_; simp only [go_sem, beq_self_eq_true]) | (refine call_pure (r13) rfl ?_; simp only [go_sem, beq_self_eq_true]) | (refine call_pure (r14) rfl ?_; simp only [go_sem, beq_self_eq_true]) | (refine call_pure (r37) rfl ?_; simp only [go_sem, beq_self_eq_true]) | (refine call_pure (r15) rfl ?_; simp only [go_sem, beq_self_eq_true]) | (refine call_pure (r16) rfl ?_; simp only [go_sem, beq_self_eq_true]) | (refine call_pure (r17) rfl ?_; simp only [go_sem, beq_self_eq_true]) | (refine call_pure (r18) rfl ?_; simp only [go_sem, beq_self_eq_true]) | (refine call_pure (r19) rfl ?_; simp only [go_sem, beq_self_eq_true]) | (refine call_pure (r20) rfl ?_; simp only [go_sem, beq_self_eq_true]) | (refine call_pure (r21) rfl ?_; simp only [go_sem, beq_self_eq_true]) | (refine call_pure (r22) rfl ?_; simp only [go_sem, beq_self_eq_true]) | (refine call_pure (r23) rfl ?_; simp only [go_sem, beq_self_eq_true]) | (refine call_pure (r24) rfl ?_; simp only [go_sem, beq_self_eq_true]) | (refine call_pure (r25) rfl ?_; simp only [go_sem, beq_self_eq_true]) | (refine call_pure (r26) rfl ?_; simp only [go_sem, beq_self_eq_true]) | (refine call_pure (r27) rfl ?_; simp only [go_sem, beq_self_eq_true]) | (refine call_pure (r28) rfl ?_; simp only [go_sem, beq_self_eq_true]) | (refine call_pure (r29) rfl ?_; simp only [go_sem, beq_self_eq_true]) | (refine call_pure (r30) rfl ?_; simp only [go_sem, beq_self_eq_true]) | (refine call_pure (r31) rfl ?_; simp only [go_sem, beq_self_eq_true]) | (refine call_pure (r32) rfl ?_; simp only [go_sem, beq_self_eq_true]) | (refine call_pure (r33) rfl ?_; simp only [go_sem, beq_self_eq_true]) | (refine call_pure (r34) rfl ?_; simp only [go_sem, beq_self_eq_true]) | (refine call_pure (r35) rfl ?_; simp only [go_sem, beq_self_eq_true]) | (refine call_pure (r36) rfl ?_; simp only [go_sem, beq_self_eq_true])))
        · have f4' : ((5 : Int) < (q.length : Int)) = True := eq_true (by omega)
          refine pcall_of_wpA mixed Tryz.call3 Tryz.func3 rfl Tryz.ntmps3 Tryz.results3 (by simp) (by decide) ?_
          simp only [go_sem]
          (repeat (first | (refine regA_by 0 rfl ?_; simp only [go_sem, f3', f4']) | (refine call_pure (hk) rfl ?_; simp only [go_sem, f3', f4']) | (refine call_pure (q1) rfl ?_; simp only [go_sem, f3', f4']) | (refine call_pure (q2) rfl ?_; simp only [go_sem, f3', f4'])))
      · have f3' : ((5 : Int) < (p.length : Int)) = True := eq_true (by omega)
        refine pcall_of_wpA mixed Tryz.call3 Tryz.func3 rfl Tryz.ntmps3 Tryz.results3 (by simp) (by decide) ?_
        simp only [go_sem]
        (repeat (first | (refine regA_by 0 rfl ?_; simp only [go_sem, f3']) | (refine call_pure (hk) rfl ?_; simp only [go_sem, f3']) | (refine call_pure (q1) rfl ?_; simp only [go_sem, f3']) | (refine call_pure (q2) rfl ?_; simp only [go_sem, f3'])))
    · have q2 := tB_not (few5 t b e) f2
      refine pcall_of_wpA mixed Tryz.call3 Tryz.func3 rfl Tryz.ntmps3 Tryz.results3 (by simp) (by decide) ?_
      simp only [go_sem]
      (repeat (first | (refine regA_by 0 rfl ?_; simp only [go_sem]) | (refine call_pure (hk) rfl ?_; simp only [go_sem]) | (refine call_pure (q1) rfl ?_; simp only [go_sem]) | (refine call_pure (q2) rfl ?_; simp only [go_sem])))
  · have q1 := tB_not (few5 s a d) f1
    refine pcall_of_wpA mixed Tryz.call3 Tryz.func3 rfl Tryz.ntmps3 Tryz.results3 (by simp) (by decide) ?_
    simp only [go_sem]
    (repeat (first | (refine regA_by 0 rfl ?_; simp only [go_sem]) | (refine call_pure (hk) rfl ?_; simp only [go_sem]) | (refine call_pure (q1) rfl ?_; simp only [go_sem])))
end Go.Proofs.YtpnmoecjhannnaaGreat
