/- At every input the call answers true and leaves its arguments as they were; no conditions. -/
import Derived.Test.YtpnmoecjhannnaaGreatQb
set_option linter.unusedSimpArgs false
set_option linter.unusedVariables false
namespace Go.Proofs.YtpnmoecjhannnaaGreat
open Go Go.Abs
set_option maxHeartbeats 4000000
theorem q_Held_e (x : Rat) (hx : lQ x < 1000) : PCall Tryz.prog 36 [eQ x] (eQ x) := by
  have nx := lQ_num x
  have dx := lQ_den x
  have := q_Held (decide (x.num < 0)) (dig x.num.natAbs) (dig x.den) (by unfold lN at nx; omega) (by rw [lN_nat'] at dx; omega)
  rwa [qv_eQ] at this
theorem q_Is_e (x : Rat) (hx : lQ x < 1000) : PCall Tryz.prog 9 [eQ x] (tB true) := by
  have nx := lQ_num x
  have dx := lQ_den x
  exact tB_of (q_Is (decide (x.num < 0)) (dig x.num.natAbs) (dig x.den) (by unfold lN at nx; omega) (by rw [lN_nat'] at dx; omega)) (IsQ_eQ x)
theorem q_Rat_e (x : Rat) : PCall Tryz.prog 39 [eQ x] (eQ x) := q_Rat _ _ _
set_option maxRecDepth 100000 in
theorem q_Of (s : Bool) (a : List Nat) (t : Bool) (b : List Nat) (ha : a.length < 1000) (hb : b.length < 1000) : PCall Tryz.prog 12 [gI s a, gI t b] (eQ (Rat.divInt (iv s a) (iv t b))) := by
  refine pcall_of_wpA mixed Tryz.call12 Tryz.func12 rfl Tryz.ntmps12 Tryz.results12 (by simp) (by decide) ?_
  have hs := w_Sign t b (by omega)
  have hA := w_Abs t b (by omega)
  have hN := w_Neg s a (by omega)
  have h0 := w_Add_0 s a (by omega)
  have l1 := lN_iv s a
  have l2 := lN_iv t b
  generalize iv s a = p at *
  generalize iv t b = q at *
  simp only [go_sem]
  refine call_pure hs rfl ?_
  have e0 : ∀ m : Nat, eI (m : Int) = gI false (dig m) := fun m => by unfold eI; rw [decide_eq_false (by omega)]; rfl
  rw [e0] at hA
  by_cases hq : q = 0
  · have e : (0 : Int).sign = 0 := rfl
    subst hq
    rw [Rat.divInt_zero]
    have r0 := q_Rat_e 0
    simp only [go_sem, e]
    (repeat (first | (refine regA_by 0 rfl ?_; simp only [go_sem]) | (refine call_pure (q_whole1_0) rfl ?_; simp only [go_sem]) | (refine call_pure (r0) rfl ?_; simp only [go_sem])))
    exact fz_agg3 .t .t .t
  · have hne := sign_ne hq
    have hqn : q.natAbs ≠ 0 := by omega
    have r0 := q_Rat_e (Rat.divInt p q)
    simp only [go_sem, hne]
    refine call_pure hs rfl ?_
    by_cases hn : q < 0
    · have hs1 : q.sign = -1 := Int.sign_eq_neg_one_of_neg hn
      have h3 := w_Add_0 (decide (-p < 0)) (dig (-p).natAbs) (by have := lN_neg p; unfold lN at this l1; omega)
      rw [iv_eI] at h3
      have sh := q_short (-p) q.natAbs hqn (by rw [lN_neg]; omega) (by rw [lN_abs]; omega)
      rw [← Rat.divInt_ofNat, show ((q.natAbs : Nat) : Int) = -q by omega, Rat.neg_divInt_neg] at sh
      simp only [go_sem, hs1]
      refine call_pure hN rfl ?_
      simp only [go_sem]
      (repeat (first | (refine regA_by 0 rfl ?_; simp only [go_sem]) | (refine call_pure (h3) rfl ?_; simp only [go_sem]) | (refine call_pure (hA) rfl ?_; simp only [go_sem]) | (refine call_pure (sh) rfl ?_; simp only [go_sem]) | (refine call_pure (r0) rfl ?_; simp only [go_sem])))
      exact fz_agg3 .t .t .t
    · have hs1 : q.sign = 1 := Int.sign_eq_one_of_pos (by omega)
      have sh := q_short p q.natAbs hqn (by omega) (by rw [lN_abs]; omega)
      rw [← Rat.divInt_ofNat, show ((q.natAbs : Nat) : Int) = q by omega] at sh
      simp only [go_sem, hs1]
      (repeat (first | (refine regA_by 0 rfl ?_; simp only [go_sem]) | (refine call_pure (h0) rfl ?_; simp only [go_sem]) | (refine call_pure (hA) rfl ?_; simp only [go_sem]) | (refine call_pure (sh) rfl ?_; simp only [go_sem]) | (refine call_pure (r0) rfl ?_; simp only [go_sem])))
      exact fz_agg3 .t .t .t
theorem q_Of_e (p q : Int) (ha : lN p < 1000) (hb : lN q < 1000) : PCall Tryz.prog 12 [eI p, eI q] (eQ (Rat.divInt p q)) := by
  have := q_Of (decide (p < 0)) (dig p.natAbs) (decide (q < 0)) (dig q.natAbs) ha hb; rwa [iv_eI, iv_eI] at this
theorem q_Of_0 (p : Int) (ha : lN p < 1000) : PCall Tryz.prog 12 [eI p, gI0] (eQ 0) := by
  have := q_Of (decide (p < 0)) (dig p.natAbs) false [] ha (by simp)
  rw [show iv false [] = 0 by decide, Rat.divInt_zero] at this
  exact this.fz (.cons (fz_agg2 .t .t) (.cons (fz_agg2 .t .weak) .nil))
set_option maxRecDepth 100000 in
theorem q_Int (s : Bool) (a : List Nat) (ha : a.length < 1000) : PCall Tryz.prog 14 [gI s a] (eQ ((iv s a : Int) : Rat)) := by
  refine pcall_of_wpA mixed Tryz.call14 Tryz.func14 rfl Tryz.ntmps14 Tryz.results14 (by simp) (by decide) ?_
  have h1 := q_Of1 s a (by omega)
  have r0 := q_Rat_e ((iv s a : Int) : Rat)
  simp only [go_sem]
  (repeat (first | (refine regA_by 0 rfl ?_; simp only [go_sem]) | (refine call_pure (h1) rfl ?_; simp only [go_sem]) | (refine call_pure (r0) rfl ?_; simp only [go_sem])))
  exact fz_agg3 .t .t .t
theorem q_Int_e (p : Int) (ha : lN p < 1000) : PCall Tryz.prog 14 [eI p] (eQ (p : Rat)) := by
  have := q_Int (decide (p < 0)) (dig p.natAbs) ha; rwa [iv_eI] at this
theorem q_Int_0 : PCall Tryz.prog 14 [gI0] (eQ 0) := by
  have := q_Int false [] (by simp)
  rw [show ((iv false [] : Int) : Rat) = 0 by rw [show iv false [] = 0 by decide]; rfl] at this
  exact this.fz (.cons (fz_agg2 .t .weak) .nil)
set_option maxRecDepth 100000 in
theorem q_Cmp (s : Bool) (a d : List Nat) (t : Bool) (b e : List Nat) (ha : a.length < 200) (hd : d.length < 200) (hb : b.length < 200) (he : e.length < 200) : PCall Tryz.prog 16 [gQ s a d, gQ t b e] (tI .i64 (cmpQ (qv s a d) (qv t b e))) := by
  refine pcall_of_wpA mixed Tryz.call16 Tryz.func16 rfl Tryz.ntmps16 Tryz.results16 (by simp) (by decide) ?_
  have hx := q_Held s a d (by omega) (by omega)
  have hy := q_Held t b e (by omega) (by omega)
  have lx := lQ_qv s a d
  have ly := lQ_qv t b e
  generalize qv s a d = x at *
  generalize qv t b e = y at *
  have hm := q_Minus y (by omega)
  have hp := q_Plus x (-y) (by omega) (by rw [lQ_neg]; omega)
  have hs := q_Sign_e (x + -y) (by have := lQ_add x (-y); rw [lQ_neg] at this; omega)
  rw [← Rat.sub_eq_add_neg] at hp hs
  change PCall _ _ _ (tI .i64 (cmpQ x y)) at hs
  simp only [go_sem]
  (repeat (first | (refine regA_by 0 rfl ?_; simp only [go_sem]) | (refine call_pure (hx) rfl ?_; simp only [go_sem]) | (refine call_pure (hy) rfl ?_; simp only [go_sem]) | (refine call_pure (hm) rfl ?_; simp only [go_sem]) | (refine call_pure (hp) rfl ?_; simp only [go_sem]) | (refine call_pure (hs) rfl ?_; simp only [go_sem])))
theorem q_Cmp_e (x y : Rat) (hx : lQ x < 200) (hy : lQ y < 200) : PCall Tryz.prog 16 [eQ x, eQ y] (tI .i64 (cmpQ x y)) := by
  have nx := lQ_num x
  have dx := lQ_den x
  have ny := lQ_num y
  have dy := lQ_den y
  rw [lN_nat'] at dx dy
  unfold lN at nx ny
  have := q_Cmp (decide (x.num < 0)) (dig x.num.natAbs) (dig x.den) (decide (y.num < 0)) (dig y.num.natAbs) (dig y.den) (by omega) (by omega) (by omega) (by omega)
  rwa [qv_eQ, qv_eQ] at this
set_option maxRecDepth 100000 in
theorem q_Same (s : Bool) (a d : List Nat) (t : Bool) (b e : List Nat) (ha : a.length < 200) (hd : d.length < 200) (hb : b.length < 200) (he : e.length < 200) : PCall Tryz.prog 18 [gQ s a d, gQ t b e] (tB (decide (qv s a d = qv t b e))) := by
  refine pcall_of_wpA mixed Tryz.call18 Tryz.func18 rfl Tryz.ntmps18 Tryz.results18 (by simp) (by decide) ?_
  have hc := q_Cmp s a d t b e ha hd hb he
  rw [show decide (qv s a d = qv t b e) = decide (cmpQ (qv s a d) (qv t b e) = 0) from decide_eq_decide.2 cmpQ_eq.symm]
  simp only [go_sem]
  refine call_pure hc rfl ?_
  simp only [go_sem]
theorem q_Same_e (x y : Rat) (hx : lQ x < 200) (hy : lQ y < 200) : PCall Tryz.prog 18 [eQ x, eQ y] (tB (decide (x = y))) := by
  have nx := lQ_num x
  have dx := lQ_den x
  have ny := lQ_num y
  have dy := lQ_den y
  rw [lN_nat'] at dx dy
  unfold lN at nx ny
  have := q_Same (decide (x.num < 0)) (dig x.num.natAbs) (dig x.den) (decide (y.num < 0)) (dig y.num.natAbs) (dig y.den) (by omega) (by omega) (by omega) (by omega)
  rwa [qv_eQ, qv_eQ] at this
set_option maxRecDepth 100000 in
theorem q_Neg (s : Bool) (a d : List Nat) (ha : a.length < 200) (hd : d.length < 200) : PCall Tryz.prog 20 [gQ s a d] (eQ (-(qv s a d))) := by
  refine pcall_of_wpA mixed Tryz.call20 Tryz.func20 rfl Tryz.ntmps20 Tryz.results20 (by simp) (by decide) ?_
  have hx := q_Held s a d (by omega) (by omega)
  have lx := lQ_qv s a d
  generalize qv s a d = x at *
  have hm := q_Minus x (by omega)
  have hr := q_Rat_e (-x)
  simp only [go_sem]
  (repeat (first | (refine regA_by 0 rfl ?_; simp only [go_sem]) | (refine call_pure (hx) rfl ?_; simp only [go_sem]) | (refine call_pure (hm) rfl ?_; simp only [go_sem]) | (refine call_pure (hr) rfl ?_; simp only [go_sem])))
  exact fz_agg3 .t .t .t
theorem q_Neg_e (x : Rat) (hx : lQ x < 200) : PCall Tryz.prog 20 [eQ x] (eQ (-x)) := by
  have nx := lQ_num x
  have dx := lQ_den x
  rw [lN_nat'] at dx
  unfold lN at nx
  have := q_Neg (decide (x.num < 0)) (dig x.num.natAbs) (dig x.den) (by omega) (by omega)
  rwa [qv_eQ] at this
set_option maxRecDepth 100000 in
theorem q_Add (s : Bool) (a d : List Nat) (t : Bool) (b e : List Nat) (ha : a.length < 200) (hd : d.length < 200) (hb : b.length < 200) (he : e.length < 200) : PCall Tryz.prog 22 [gQ s a d, gQ t b e] (eQ ((qv s a d) + (qv t b e))) := by
  refine pcall_of_wpA mixed Tryz.call22 Tryz.func22 rfl Tryz.ntmps22 Tryz.results22 (by simp) (by decide) ?_
  have hx := q_Held s a d (by omega) (by omega)
  have hy := q_Held t b e (by omega) (by omega)
  have lx := lQ_qv s a d
  have ly := lQ_qv t b e
  generalize qv s a d = x at *
  generalize qv t b e = y at *
  have hp := q_Plus x y (by omega) (by omega)
  have hr := q_Rat_e (x + y)
  simp only [go_sem]
  (repeat (first | (refine regA_by 0 rfl ?_; simp only [go_sem]) | (refine call_pure (hx) rfl ?_; simp only [go_sem]) | (refine call_pure (hy) rfl ?_; simp only [go_sem]) | (refine call_pure (hp) rfl ?_; simp only [go_sem]) | (refine call_pure (hr) rfl ?_; simp only [go_sem])))
  exact fz_agg3 .t .t .t
theorem q_Add_e (x y : Rat) (hx : lQ x < 200) (hy : lQ y < 200) : PCall Tryz.prog 22 [eQ x, eQ y] (eQ (x + y)) := by
  have nx := lQ_num x
  have dx := lQ_den x
  have ny := lQ_num y
  have dy := lQ_den y
  rw [lN_nat'] at dx dy
  unfold lN at nx ny
  have := q_Add (decide (x.num < 0)) (dig x.num.natAbs) (dig x.den) (decide (y.num < 0)) (dig y.num.natAbs) (dig y.den) (by omega) (by omega) (by omega) (by omega)
  rwa [qv_eQ, qv_eQ] at this
set_option maxRecDepth 100000 in
theorem q_Sub (s : Bool) (a d : List Nat) (t : Bool) (b e : List Nat) (ha : a.length < 200) (hd : d.length < 200) (hb : b.length < 200) (he : e.length < 200) : PCall Tryz.prog 24 [gQ s a d, gQ t b e] (eQ ((qv s a d) - (qv t b e))) := by
  refine pcall_of_wpA mixed Tryz.call24 Tryz.func24 rfl Tryz.ntmps24 Tryz.results24 (by simp) (by decide) ?_
  have hx := q_Held s a d (by omega) (by omega)
  have hy := q_Held t b e (by omega) (by omega)
  have lx := lQ_qv s a d
  have ly := lQ_qv t b e
  generalize qv s a d = x at *
  generalize qv t b e = y at *
  have hm := q_Minus y (by omega)
  have hp := q_Plus x (-y) (by omega) (by rw [lQ_neg]; omega)
  rw [← Rat.sub_eq_add_neg] at hp
  have hr := q_Rat_e (x - y)
  simp only [go_sem]
  (repeat (first | (refine regA_by 0 rfl ?_; simp only [go_sem]) | (refine call_pure (hx) rfl ?_; simp only [go_sem]) | (refine call_pure (hy) rfl ?_; simp only [go_sem]) | (refine call_pure (hm) rfl ?_; simp only [go_sem]) | (refine call_pure (hp) rfl ?_; simp only [go_sem]) | (refine call_pure (hr) rfl ?_; simp only [go_sem])))
  exact fz_agg3 .t .t .t
theorem q_Sub_e (x y : Rat) (hx : lQ x < 200) (hy : lQ y < 200) : PCall Tryz.prog 24 [eQ x, eQ y] (eQ (x - y)) := by
  have nx := lQ_num x
  have dx := lQ_den x
  have ny := lQ_num y
  have dy := lQ_den y
  rw [lN_nat'] at dx dy
  unfold lN at nx ny
  have := q_Sub (decide (x.num < 0)) (dig x.num.natAbs) (dig x.den) (decide (y.num < 0)) (dig y.num.natAbs) (dig y.den) (by omega) (by omega) (by omega) (by omega)
  rwa [qv_eQ, qv_eQ] at this
set_option maxRecDepth 100000 in
theorem q_Mul (s : Bool) (a d : List Nat) (t : Bool) (b e : List Nat) (ha : a.length < 200) (hd : d.length < 200) (hb : b.length < 200) (he : e.length < 200) : PCall Tryz.prog 25 [gQ s a d, gQ t b e] (eQ ((qv s a d) * (qv t b e))) := by
  refine pcall_of_wpA mixed Tryz.call25 Tryz.func25 rfl Tryz.ntmps25 Tryz.results25 (by simp) (by decide) ?_
  have hx := q_Held s a d (by omega) (by omega)
  have hy := q_Held t b e (by omega) (by omega)
  have lx := lQ_qv s a d
  have ly := lQ_qv t b e
  generalize qv s a d = x at *
  generalize qv t b e = y at *
  have hp := q_Times x y (by omega) (by omega)
  have hr := q_Rat_e (x * y)
  simp only [go_sem]
  (repeat (first | (refine regA_by 0 rfl ?_; simp only [go_sem]) | (refine call_pure (hx) rfl ?_; simp only [go_sem]) | (refine call_pure (hy) rfl ?_; simp only [go_sem]) | (refine call_pure (hp) rfl ?_; simp only [go_sem]) | (refine call_pure (hr) rfl ?_; simp only [go_sem])))
  exact fz_agg3 .t .t .t
theorem q_Mul_e (x y : Rat) (hx : lQ x < 200) (hy : lQ y < 200) : PCall Tryz.prog 25 [eQ x, eQ y] (eQ (x * y)) := by
  have nx := lQ_num x
  have dx := lQ_den x
  have ny := lQ_num y
  have dy := lQ_den y
  rw [lN_nat'] at dx dy
  unfold lN at nx ny
  have := q_Mul (decide (x.num < 0)) (dig x.num.natAbs) (dig x.den) (decide (y.num < 0)) (dig y.num.natAbs) (dig y.den) (by omega) (by omega) (by omega) (by omega)
  rwa [qv_eQ, qv_eQ] at this
set_option maxRecDepth 100000 in
theorem q_Floor (s : Bool) (a d : List Nat) (ha : a.length < 200) (hd : d.length < 200) : PCall Tryz.prog 28 [gQ s a d] (eI ((qv s a d)).floor) := by
  refine pcall_of_wpA mixed Tryz.call28 Tryz.func28 rfl Tryz.ntmps28 Tryz.results28 (by simp) (by decide) ?_
  have hx := q_Held s a d (by omega) (by omega)
  have lx := lQ_qv s a d
  generalize qv s a d = x at *
  have hf := q_NFloor x (by omega)
  simp only [go_sem]
  (repeat (first | (refine regA_by 0 rfl ?_; simp only [go_sem]) | (refine call_pure (hx) rfl ?_; simp only [go_sem]) | (refine call_pure (hf) rfl ?_; simp only [go_sem])))
  exact fz_agg2 .t .t
theorem q_Floor_e (x : Rat) (hx : lQ x < 200) : PCall Tryz.prog 28 [eQ x] (eI (x).floor) := by
  have nx := lQ_num x
  have dx := lQ_den x
  rw [lN_nat'] at dx
  unfold lN at nx
  have := q_Floor (decide (x.num < 0)) (dig x.num.natAbs) (dig x.den) (by omega) (by omega)
  rwa [qv_eQ] at this
set_option maxRecDepth 100000 in
theorem q_Ceil (s : Bool) (a d : List Nat) (ha : a.length < 200) (hd : d.length < 200) : PCall Tryz.prog 30 [gQ s a d] (eI (-(-(qv s a d)).floor)) := by
  refine pcall_of_wpA mixed Tryz.call30 Tryz.func30 rfl Tryz.ntmps30 Tryz.results30 (by simp) (by decide) ?_
  have hx := q_Held s a d (by omega) (by omega)
  have lx := lQ_qv s a d
  generalize qv s a d = x at *
  have hm := q_Minus x (by omega)
  have hf := q_NFloor (-x) (by rw [lQ_neg]; omega)
  have hn := w_Neg_e (-x).floor (by have := lN_floor (-x); have := lQ_num (-x); rw [lQ_neg] at this; omega)
  simp only [go_sem]
  (repeat (first | (refine regA_by 0 rfl ?_; simp only [go_sem]) | (refine call_pure (hx) rfl ?_; simp only [go_sem]) | (refine call_pure (hm) rfl ?_; simp only [go_sem]) | (refine call_pure (hf) rfl ?_; simp only [go_sem]) | (refine call_pure (hn) rfl ?_; simp only [go_sem])))
  exact fz_agg2 .t .t
theorem q_Ceil_e (x : Rat) (hx : lQ x < 200) : PCall Tryz.prog 30 [eQ x] (eI (-(-x).floor)) := by
  have nx := lQ_num x
  have dx := lQ_den x
  rw [lN_nat'] at dx
  unfold lN at nx
  have := q_Ceil (decide (x.num < 0)) (dig x.num.natAbs) (dig x.den) (by omega) (by omega)
  rwa [qv_eQ] at this
set_option maxRecDepth 100000 in
theorem q_Whole (s : Bool) (a d : List Nat) (ha : a.length < 200) (hd : d.length < 200) : PCall Tryz.prog 32 [gQ s a d] (tB (decide (((qv s a d)).den = 1))) := by
  refine pcall_of_wpA mixed Tryz.call32 Tryz.func32 rfl Tryz.ntmps32 Tryz.results32 (by simp) (by decide) ?_
  have hx := q_Held s a d (by omega) (by omega)
  have lx := lQ_qv s a d
  generalize qv s a d = x at *
  have ho := q_one_e x
  simp only [go_sem]
  (repeat (first | (refine regA_by 0 rfl ?_; simp only [go_sem]) | (refine call_pure (hx) rfl ?_; simp only [go_sem]) | (refine call_pure (ho) rfl ?_; simp only [go_sem])))
theorem q_Whole_e (x : Rat) (hx : lQ x < 200) : PCall Tryz.prog 32 [eQ x] (tB (decide ((x).den = 1))) := by
  have nx := lQ_num x
  have dx := lQ_den x
  rw [lN_nat'] at dx
  unfold lN at nx
  have := q_Whole (decide (x.num < 0)) (dig x.num.natAbs) (dig x.den) (by omega) (by omega)
  rwa [qv_eQ] at this
end Go.Proofs.YtpnmoecjhannnaaGreat
namespace Go.Proofs.YtpnmoecjhannnaaGreat
open Go Go.Abs
set_option maxHeartbeats 4000000
set_option maxRecDepth 100000 in
theorem q_Div (s : Bool) (a d : List Nat) (t : Bool) (b e : List Nat) (ha : a.length < 200) (hd : d.length < 200) (hb : b.length < 200) (he : e.length < 200) : PCall Tryz.prog 6 [gQ s a d, gQ t b e] (.tup [eQ (qv s a d / qv t b e), tI .i64 (if qv t b e = 0 then 12 else 0)]) := by
  refine pcall_of_wpA mixed Tryz.call6 Tryz.func6 rfl Tryz.ntmps6 Tryz.results6 (by simp) (by decide) ?_
  have hx := q_Held s a d (by omega) (by omega)
  have hy := q_Held t b e (by omega) (by omega)
  have lx := lQ_qv s a d
  have ly := lQ_qv t b e
  generalize qv s a d = x at *
  generalize qv t b e = y at *
  have hs := q_Sign_e y (by omega)
  by_cases h : y = 0
  · subst h
    rw [show x / 0 = 0 by rw [Rat.div_def, Rat.inv_zero, Rat.mul_zero], if_pos rfl]
    rw [show (0 : Rat).num.sign = 0 from rfl] at hs
    have hr := q_Rat_e 0
    simp only [go_sem]
    (repeat (first | (refine regA_by 0 rfl ?_; simp only [go_sem]) | (refine call_pure (hy) rfl ?_; simp only [go_sem]) | (refine call_pure (hs) rfl ?_; simp only [go_sem]) | (refine call_pure (q_whole1_0) rfl ?_; simp only [go_sem]) | (refine call_pure (hr) rfl ?_; simp only [go_sem])))
    exact fz_tup2 (fz_agg3 .t .t .t) (.one .t)
  · rw [if_neg h]
    have hne := sign_ne (fun e => h (Rat.num_eq_zero.1 e))
    have ho := q_Over y (by omega)
    have ht := q_Times x y⁻¹ (by omega) (by have := lQ_inv y; omega)
    rw [← Rat.div_def] at ht
    have hr := q_Rat_e (x / y)
    simp only [go_sem]
    (repeat (first | (refine regA_by 0 rfl ?_; simp only [go_sem, hne]) | (refine call_pure (hy) rfl ?_; simp only [go_sem, hne]) | (refine call_pure (hx) rfl ?_; simp only [go_sem, hne]) | (refine call_pure (hs) rfl ?_; simp only [go_sem, hne]) | (refine call_pure (ho) rfl ?_; simp only [go_sem, hne]) | (refine call_pure (ht) rfl ?_; simp only [go_sem, hne]) | (refine call_pure (hr) rfl ?_; simp only [go_sem, hne])))
    exact fz_tup2 (fz_agg3 .t .t .t) (.one .t)
theorem q_Div_e (x y : Rat) (hx : lQ x < 200) (hy : lQ y < 200) : PCall Tryz.prog 6 [eQ x, eQ y] (.tup [eQ (x / y), tI .i64 (if y = 0 then 12 else 0)]) := by
  have nx := lQ_num x
  have dx := lQ_den x
  have ny := lQ_num y
  have dy := lQ_den y
  rw [lN_nat'] at dx dy
  unfold lN at nx ny
  have := q_Div (decide (x.num < 0)) (dig x.num.natAbs) (dig x.den) (decide (y.num < 0)) (dig y.num.natAbs) (dig y.den) (by omega) (by omega) (by omega) (by omega)
  rwa [qv_eQ, qv_eQ] at this
set_option maxRecDepth 100000 in
theorem r_EqualRat (s : Bool) (a d : List Nat) (t : Bool) (b e : List Nat) (ha : a.length < 1000) (hd : d.length < 1000) (hb : b.length < 1000) (he : e.length < 1000) : PCall Tryz.prog 11 [gQ s a d, gQ t b e] (tB (decide ((s = t ∧ a = b) ∧ d = e))) := by
  refine pcall_of_wpA mixed Tryz.call11 Tryz.func11 rfl Tryz.ntmps11 Tryz.results11 (by simp) (by decide) ?_
  have h1 := i_Equal s a t b (by omega) (by omega)
  have h2 := r_SameNat d e (by omega) (by omega)
  simp only [go_sem]
  refine call_pure h1 rfl ?_
  by_cases h : s = t ∧ a = b
  · have e1 : (s = t ∧ a = b) = True := eq_true h
    simp only [go_sem, e1]
    refine call_pure h2 rfl ?_
    simp only [go_sem]
    try simp [h]
  · have e1 : (s = t ∧ a = b) = False := eq_false h
    simp only [go_sem, e1]
    simp
theorem r_EqualRat_e (x y : Rat) (hx : lQ x < 1000) (hy : lQ y < 1000) : PCall Tryz.prog 11 [eQ x, eQ y] (tB (decide (x = y))) := by
  have nx := lQ_num x
  have dx := lQ_den x
  have ny := lQ_num y
  have dy := lQ_den y
  rw [lN_nat'] at dx dy
  unfold lN at nx ny
  have := r_EqualRat (decide (x.num < 0)) (dig x.num.natAbs) (dig x.den) (decide (y.num < 0)) (dig y.num.natAbs) (dig y.den) (by omega) (by omega) (by omega) (by omega)
  have e : ((decide (x.num < 0) = decide (y.num < 0) ∧ dig x.num.natAbs = dig y.num.natAbs) ∧ dig x.den = dig y.den) ↔ x = y := by
    rw [eI_inj]
    exact ⟨fun h => Rat.ext h.1 (by have := congrArg val h.2; rwa [val_dig, val_dig] at this), fun h => by rw [h]; exact ⟨rfl, rfl⟩⟩
  rwa [decide_eq_decide.2 e] at this
set_option maxRecDepth 100000 in
theorem r_IsRat (s : Bool) (a d : List Nat) (ha : a.length < 1000) (hd : d.length < 1000) : PCall Tryz.prog 10 [gQ s a d] (tB (decide (IsQ s a d))) := by
  refine pcall_of_wpA mixed Tryz.call10 Tryz.func10 rfl Tryz.ntmps10 Tryz.results10 (by simp) (by decide) ?_
  have i1 := i_Is s a (by omega)
  have i2 := r_IsNat d (by omega)
  simp only [go_sem]
  refine call_pure i1 rfl ?_
  by_cases hI : IsI s a
  · simp only [go_sem, hI]
    refine call_pure i2 rfl ?_
    by_cases hN : IsN d
    · have e : (0 < (d.length : Int)) = (¬ d = []) := by rw [eq_iff_iff]; cases d <;> simp
      simp only [go_sem, hN, e]
      by_cases h0 : d = []
      · have e0 : (d = []) = True := eq_true h0
        simp only [go_sem, e0]
        simp [IsQ, h0]
      · have hg := i_Gcd s a false d (by omega) (by omega)
        have hv : iv false d = (val d : Int) := by unfold iv; rw [if_pos ⟨hN, .inr rfl⟩]; simp
        rw [hv] at hg
        have hlg := lN_gcd (iv s a) (val d)
        have hl1 := lN_iv s a
        have hl2 : lN (val d : Int) = d.length := by rw [lN_nat', hN.trimZ]
        have hs := r_SameNat (dig (Int.gcd (iv s a) (val d))) [1] (by rw [lN_nat'] at hlg; omega) (by simp)
        have ef : decide (IsQ s a d) = decide (dig (Int.gcd (iv s a) (val d)) = [1]) := by
          rw [decide_eq_decide, dig_one_iff]
          unfold IsQ
          exact ⟨fun h => h.2.2.2, fun h => ⟨hI, hN, h0, h⟩⟩
        rw [ef]
        have e0 : ∀ m : Nat, eI (m : Int) = gI false (dig m) := fun m => by unfold eI; rw [decide_eq_false (by omega)]; rfl
        rw [e0] at hg
        simp only [go_sem, h0]
        (repeat (first | (refine regA_by 0 rfl ?_; simp only [go_sem]) | (refine call_pure (hg) rfl ?_; simp only [go_sem])))
        refine call_fz (tvs' := [tN (dig (Int.gcd (iv s a) (val d))), .one (.seq (some false) [[.lit (.int .u32 1)]])]) hs rfl (.cons (.one .t) (.cons (.one .weak) .nil)) ?_
        simp only [go_sem]
    · simp only [go_sem, hN]
      simp [IsQ, hN]
  · simp only [go_sem, hI]
    simp [IsQ, hI]
set_option maxRecDepth 100000 in
theorem r_MayRat (s : Bool) (a d : List Nat) (ha : a.length < 1000) (hd : d.length < 1000) : PCall Tryz.prog 19 [gQ s a d] (eQ (qv s a d)) := by
  refine pcall_of_wpA mixed Tryz.call19 Tryz.func19 rfl Tryz.ntmps19 Tryz.results19 (by simp) (by decide) ?_
  have i1 := r_IsRat s a d ha hd
  simp only [go_sem]
  refine call_pure i1 rfl ?_
  by_cases h : IsQ s a d
  · rw [← eQ_qv h]
    simp only [go_sem, h]
    exact fz_agg3 .t .t .t
  · rw [show qv s a d = 0 from if_neg h, eQ_zero]
    simp only [go_sem, h]
    exact fz_agg3 .t .weak .weak
theorem r_MayRat_e (x : Rat) (hx : lQ x < 1000) : PCall Tryz.prog 19 [eQ x] (eQ x) := by
  have nx := lQ_num x
  have dx := lQ_den x
  have := r_MayRat (decide (x.num < 0)) (dig x.num.natAbs) (dig x.den) (by unfold lN at nx; omega) (by rw [lN_nat'] at dx; omega)
  rwa [qv_eQ] at this
set_option maxRecDepth 100000 in
theorem r_SignRat (s : Bool) (a d : List Nat) (ha : a.length < 1000) (hd : d.length < 1000) : PCall Tryz.prog 7 [gQ s a d] (tI .i64 (qv s a d).num.sign) := by
  refine pcall_of_wpA mixed Tryz.call7 Tryz.func7 rfl Tryz.ntmps7 Tryz.results7 (by simp) (by decide) ?_
  have h1 := r_MayRat s a d ha hd
  have lx := lQ_qv s a d
  have nx := lQ_num (qv s a d)
  have h2 := i_Sign_e (qv s a d).num (by omega)
  simp only [go_sem]
  (repeat (first | (refine regA_by 0 rfl ?_; simp only [go_sem]) | (refine call_pure (h1) rfl ?_; simp only [go_sem]) | (refine call_pure (h2) rfl ?_; simp only [go_sem])))
theorem r_SignRat_e (x : Rat) (hx : lQ x < 1000) : PCall Tryz.prog 7 [eQ x] (tI .i64 x.num.sign) := by
  have nx := lQ_num x
  have dx := lQ_den x
  have := r_SignRat (decide (x.num < 0)) (dig x.num.natAbs) (dig x.den) (by unfold lN at nx; omega) (by rw [lN_nat'] at dx; omega)
  rwa [qv_eQ] at this
set_option maxRecDepth 100000 in
theorem r_RatOf (s : Bool) (a : List Nat) (t : Bool) (b : List Nat) (ha : a.length < 1000) (hb : b.length < 1000) : PCall Tryz.prog 13 [gI s a, gI t b] (eQ (Rat.divInt (iv s a) (iv t b))) := by
  refine pcall_of_wpA mixed Tryz.call13 Tryz.func13 rfl Tryz.ntmps13 Tryz.results13 (by simp) (by decide) ?_
  have hs := i_Sign t b (by omega)
  have hg := i_Gcd s a t b (by omega) (by omega)
  have l1 := lN_iv s a
  have l2 := lN_iv t b
  by_cases hq : iv t b = 0
  · rw [hq] at hs
    rw [show (0 : Int).sign = 0 from rfl] at hs
    rw [hq, Rat.divInt_zero, eQ_zero]
    simp only [go_sem]
    (repeat (first | (refine regA_by 0 rfl ?_; simp only [go_sem]) | (refine call_pure (hs) rfl ?_; simp only [go_sem])))
    exact fz_agg3 .t .weak .weak
  · obtain ⟨k1, k2⟩ := ratOf_law (iv s a) hq
    have hlg := lN_gcd (iv s a) (iv t b)
    have f1 : ∀ g : Int, lN g < 100000 → PCall Tryz.prog 59 [gI s a, eI g] (.tup [eI (Int.fdiv (iv s a) g), eI (Int.fmod (iv s a) g)]) := fun g hg => by
      have := i_Floor s a (decide (g < 0)) (dig g.natAbs) (by omega) hg; rwa [iv_eI] at this
    have f2 : ∀ g : Int, lN g < 100000 → PCall Tryz.prog 59 [gI t b, eI g] (.tup [eI (Int.fdiv (iv t b) g), eI (Int.fmod (iv t b) g)]) := fun g hg => by
      have := i_Floor t b (decide (g < 0)) (dig g.natAbs) (by omega) hg; rwa [iv_eI] at this
    have hne := sign_ne hq
    have hN := i_Neg_e (Int.gcd (iv s a) (iv t b) : Int) (by omega)
    have fin : ∀ x y : Int, x = (Rat.divInt (iv s a) (iv t b)).num → y = ((Rat.divInt (iv s a) (iv t b)).den : Int) → eQ (Rat.divInt (iv s a) (iv t b)) = gQ (decide (x < 0)) (dig x.natAbs) (dig y.natAbs) := fun x y hx hy => by rw [hx, hy]; rfl
    by_cases hn : iv t b < 0
    · rw [if_pos hn] at k1 k2
      have hs1 : (iv t b).sign = -1 := Int.sign_eq_neg_one_of_neg hn
      rw [hs1] at hs
      have g1 := f1 (-(Int.gcd (iv s a) (iv t b) : Int)) (by rw [lN_neg]; omega)
      have g2 := f2 (-(Int.gcd (iv s a) (iv t b) : Int)) (by rw [lN_neg]; omega)
      rw [fin _ _ k1.symm k2.symm]
      simp only [go_sem]
      (repeat (first | (refine regA_by 0 rfl ?_; simp only [go_sem]) | (refine call_pure (hs) rfl ?_; simp only [go_sem]) | (refine call_pure (hg) rfl ?_; simp only [go_sem]) | (refine call_pure (hN) rfl ?_; simp only [go_sem]) | (refine call_pure (g1) rfl ?_; simp only [go_sem]) | (refine call_pure (g2) rfl ?_; simp only [go_sem])))
      exact fz_agg3 .t .t .t
    · rw [if_neg hn] at k1 k2
      have hs1 : (iv t b).sign = 1 := Int.sign_eq_one_of_pos (by omega)
      rw [hs1] at hs
      have g1 := f1 (Int.gcd (iv s a) (iv t b) : Int) (by omega)
      have g2 := f2 (Int.gcd (iv s a) (iv t b) : Int) (by omega)
      rw [fin _ _ k1.symm k2.symm]
      simp only [go_sem]
      (repeat (first | (refine regA_by 0 rfl ?_; simp only [go_sem]) | (refine call_pure (hs) rfl ?_; simp only [go_sem]) | (refine call_pure (hg) rfl ?_; simp only [go_sem]) | (refine call_pure (g1) rfl ?_; simp only [go_sem]) | (refine call_pure (g2) rfl ?_; simp only [go_sem])))
      exact fz_agg3 .t .t .t
theorem r_RatOf_e (p q : Int) (ha : lN p < 1000) (hb : lN q < 1000) : PCall Tryz.prog 13 [eI p, eI q] (eQ (Rat.divInt p q)) := by
  have := r_RatOf (decide (p < 0)) (dig p.natAbs) (decide (q < 0)) (dig q.natAbs) ha hb; rwa [iv_eI, iv_eI] at this
end Go.Proofs.YtpnmoecjhannnaaGreat
