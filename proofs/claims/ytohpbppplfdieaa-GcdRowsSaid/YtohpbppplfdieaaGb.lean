/- At every input the call answers true and leaves its arguments as they were; no conditions. -/
import Derived.Test.YtohpbppplfdieaaGa
set_option linter.unusedSimpArgs false
set_option linter.unusedVariables false
namespace Go.Proofs.Ytohpbppplfdieaa
open Go Go.Abs
set_option maxHeartbeats 8000000
/-- What the loop of Ext reckons. -/
def extN (r s : Nat) (x u y v : Int) : Int × Int :=
  if h : s = 0 then (x, y) else extN s (r % s) u (x - ((r / s : Nat) : Int) * u) v (y - ((r / s : Nat) : Int) * v)
termination_by s
decreasing_by exact Nat.mod_lt _ (Nat.pos_of_ne_zero h)

structure ExtI (a b r s : Nat) (x u y v : Int) : Prop where
  eqr : (r : Int) = x * a + y * b
  eqs : (s : Int) = u * a + v * b
  b2 : (u.natAbs : Int) * r + x.natAbs * s = b
  a2 : (v.natAbs : Int) * r + y.natAbs * s = a
  sx : x * u ≤ 0
  sy : y * v ≤ 0
  le : r ≤ a + b ∧ s ≤ a + b
  st : (r = a ∧ s = b ∧ x = 1 ∧ u = 0 ∧ y = 0 ∧ v = 1) ∨ (x.natAbs ≤ b ∧ y.natAbs ≤ max a 1 ∧ b ≠ 0 ∧ 0 < r ∧ (a = 0 → x = 0 ∧ s = 0 ∧ y = 1) ∧ u.natAbs ≤ b ∧ v.natAbs ≤ a)

theorem ExtI.start (a b : Nat) : ExtI a b a b 1 0 0 1 := ⟨by simp, by simp, by simp, by simp, by simp, by simp, by omega, .inl ⟨rfl, rfl, rfl, rfl, rfl, rfl⟩⟩

theorem alt_abs {x u : Int} (q : Nat) (h : x * u ≤ 0) : (x - (q : Int) * u).natAbs = x.natAbs + q * u.natAbs := by
  by_cases hu : u = 0
  · subst hu; simp
  by_cases hx : x = 0
  · subst hx; simp [Int.natAbs_mul]
  rcases Int.lt_or_gt_of_ne hx with h1 | h1
  · rcases Int.lt_or_gt_of_ne hu with h2 | h2
    · have := Int.mul_pos_of_neg_of_neg h1 h2; omega
    · have hq : 0 ≤ (q : Int) * u := Int.mul_nonneg (by omega) (by omega)
      have e : ((q * u.natAbs : Nat) : Int) = (q : Int) * u := by rw [Int.natCast_mul, Int.natAbs_of_nonneg (by omega)]
      generalize (q : Int) * u = z at *
      generalize q * u.natAbs = w at *
      omega
  · rcases Int.lt_or_gt_of_ne hu with h2 | h2
    · have hq : (q : Int) * u ≤ 0 := Int.mul_nonpos_of_nonneg_of_nonpos (by omega) (by omega)
      have e : ((q * u.natAbs : Nat) : Int) = -((q : Int) * u) := by rw [Int.natCast_mul, show (u.natAbs : Int) = -u by omega, Int.mul_neg]
      generalize (q : Int) * u = z at *
      generalize q * u.natAbs = w at *
      omega
    · have := Int.mul_pos h1 h2; omega

theorem alt_sign {x u : Int} (q : Nat) (h : x * u ≤ 0) : u * (x - (q : Int) * u) ≤ 0 := by
  have h1 : 0 ≤ (q : Int) * (u * u) := Int.mul_nonneg (by omega) (by
    rcases Int.lt_trichotomy u 0 with h | h | h
    · exact Int.le_of_lt (Int.mul_pos_of_neg_of_neg h h)
    · subst h; simp
    · exact Int.le_of_lt (Int.mul_pos h h))
  have e : u * (x - (q : Int) * u) = x * u - (q : Int) * (u * u) := by
    rw [Int.mul_sub, Int.mul_comm u x, Int.mul_comm u ((q : Int) * u), Int.mul_assoc]
  omega

theorem ExtI.next {a b r s : Nat} {x u y v : Int} (h : ExtI a b r s x u y v) (hs : s ≠ 0) : ExtI a b s (r % s) u (x - ((r / s : Nat) : Int) * u) v (y - ((r / s : Nat) : Int) * v) := by
  obtain ⟨h1, h2, h3, h4, h5, h6, h7, h8⟩ := h
  have hd : (r : Int) = ((r / s : Nat) : Int) * s + ((r % s : Nat) : Int) := by
    have := Nat.div_add_mod r s
    rw [← Int.natCast_mul, ← Int.natCast_add, Nat.mul_comm]; exact congrArg Nat.cast this.symm
  have hlt := Nat.mod_lt r (Nat.pos_of_ne_zero hs)
  have ax := alt_abs (r / s) h5
  have ay := alt_abs (r / s) h6
  have hb2 : ((x - ((r / s : Nat) : Int) * u).natAbs : Int) * s + u.natAbs * ((r % s : Nat) : Int) = b := by
    rw [ax, ← h3, hd]
    rw [Int.natCast_add, Int.natCast_mul]
    simp only [Int.mul_add, Int.add_mul]
    simp only [Int.mul_assoc, Int.mul_comm, Int.mul_left_comm, Int.add_assoc, Int.add_comm, Int.add_left_comm]
  have ha2 : ((y - ((r / s : Nat) : Int) * v).natAbs : Int) * s + v.natAbs * ((r % s : Nat) : Int) = a := by
    rw [ay, ← h4, hd]
    rw [Int.natCast_add, Int.natCast_mul]
    simp only [Int.mul_add, Int.add_mul]
    simp only [Int.mul_assoc, Int.mul_comm, Int.mul_left_comm, Int.add_assoc, Int.add_comm, Int.add_left_comm]
  have hle : ∀ {c : Nat} {m n : Nat} {k : Nat}, (c : Int) * (s : Int) + (m : Int) * (n : Int) = k → c ≤ k := by
    intro c m n k e
    have e' : c * s + m * n = k := by exact_mod_cast e
    have : c * 1 ≤ c * s := Nat.mul_le_mul_left _ (by omega)
    omega
  have e1 : ((r % s : Nat) : Int) = (x - ((r / s : Nat) : Int) * u) * a + (y - ((r / s : Nat) : Int) * v) * b := by
    have : ((r % s : Nat) : Int) = (r : Int) - ((r / s : Nat) : Int) * s := by omega
    rw [this, h1, h2]
    simp only [Int.sub_mul, Int.mul_add, Int.mul_assoc]
    omega
  refine ⟨h2, e1, hb2, ha2, alt_sign _ h5, alt_sign _ h6, by omega, .inr ?_⟩
  rcases h8 with ⟨rfl, rfl, rfl, rfl, rfl, rfl⟩ | ⟨k1, k2, k3, k4, k5, k6, k7⟩
  · refine ⟨by simp, by simp; omega, hs, by omega, fun h0 => ?_, hle hb2, hle ha2⟩
    subst h0; simp
  · refine ⟨k6, by omega, k3, by omega, fun h0 => absurd (k5 h0).2.1 hs, hle hb2, hle ha2⟩

theorem extN_zero {r : Nat} {x u y v : Int} : extN r 0 x u y v = (x, y) := by rw [extN]; simp
theorem extN_succ {r s : Nat} {x u y v : Int} (h : s ≠ 0) : extN r s x u y v = extN s (r % s) u (x - ((r / s : Nat) : Int) * u) v (y - ((r / s : Nat) : Int) * v) := by rw [extN]; simp [h]

/-- What Ext's loop tells. -/
theorem ext_done (a b : Nat) : ∀ (s r : Nat) (x u y v : Int), ExtI a b r s x u y v → Nat.gcd r s = Nat.gcd a b →
    ∃ r' u' v', ExtI a b r' 0 (extN r s x u y v).1 u' (extN r s x u y v).2 v' ∧ r' = Nat.gcd a b := by
  intro s
  induction s using Nat.strongRecOn with
  | _ s ih =>
    intro r x u y v h hg
    by_cases hs : s = 0
    · subst hs
      rw [extN_zero]
      exact ⟨r, u, v, h, by simpa using hg⟩
    · rw [extN_succ hs]
      exact ih _ (Nat.mod_lt _ (Nat.pos_of_ne_zero hs)) _ _ _ _ _ (h.next hs) (by rw [← hg, Nat.gcd_comm s, ← Nat.gcd_rec, Nat.gcd_comm])

/-- The two numbers that make what divides both. -/
def extX (a b : Int) : Int := (extN a.natAbs b.natAbs 1 0 0 1).1 * a.sign
def extY (a b : Int) : Int := (extN a.natAbs b.natAbs 1 0 0 1).2 * b.sign

theorem abs_sign (a : Int) : (a.natAbs : Int) = a * a.sign := by
  rcases sign3 a with ⟨h, e⟩ | ⟨h, e⟩ | ⟨h, e⟩ <;> rw [e] <;> omega

theorem ext_law (a b : Int) : a * extX a b + b * extY a b = (Int.gcd a b : Int) ∧ (b = 0 → extX a b = a.sign ∧ extY a b = 0) ∧ (b ≠ 0 → a = 0 → extX a b = 0 ∧ extY a b = b.sign) ∧
    (a ≠ 0 → b ≠ 0 → (extX a b).natAbs ≤ b.natAbs ∧ (extY a b).natAbs ≤ a.natAbs) := by
  obtain ⟨r, u, v, h, hr⟩ := ext_done a.natAbs b.natAbs b.natAbs a.natAbs 1 0 0 1 (.start _ _) rfl
  unfold extX extY
  generalize hx : (extN a.natAbs b.natAbs 1 0 0 1).1 = x at *
  generalize hy : (extN a.natAbs b.natAbs 1 0 0 1).2 = y at *
  refine ⟨?_, fun hb => ?_, fun hb ha => ?_, fun ha hb => ?_⟩
  · have := h.eqr
    rw [hr] at this
    unfold Int.gcd
    rw [this, abs_sign a, abs_sign b]
    simp only [Int.mul_assoc, Int.mul_comm, Int.mul_left_comm]
  · subst hb
    rcases h.st with ⟨_, _, rfl, _, rfl, _⟩ | ⟨_, _, k, _⟩
    · simp
    · simp at k
  · subst ha
    rcases h.st with ⟨_, k, _⟩ | ⟨_, _, _, _, k, _⟩
    · omega
    · obtain ⟨k1, _, k2⟩ := k rfl
      rw [k1, k2]; simp
  · rcases h.st with ⟨_, k, _⟩ | ⟨k1, k2, _⟩
    · omega
    · have e1 : ∀ z : Int, z ≠ 0 → z.sign.natAbs = 1 := fun z hz => by
        rcases sign3 z with ⟨h, e⟩ | ⟨h, e⟩ | ⟨h, e⟩ <;> rw [e] <;> omega
      rw [Int.natAbs_mul, Int.natAbs_mul, e1 a ha, e1 b hb]
      omega
end Go.Proofs.Ytohpbppplfdieaa
namespace Go.Proofs.Ytohpbppplfdieaa
open Go Go.Abs
set_option maxHeartbeats 16000000
abbrev cE (z : Int) : List C := [.t (.lit (.bool (decide (z < 0)))), .t (eN (dig z.natAbs))]
abbrev cI0 : List C := [.t (.lit (.bool false)), .t (.seq (some true) [])]

theorem fz_tup3 {H : Heap} {a b c : AV} {x y z : TV} (h1 : FzA H a x) (h2 : FzA H b y) (h3 : FzA H c z) : FzA H (.tup [a, b, c]) (.tup [x, y, z]) := .tup rfl fun j h h' => by
  match j, h, h' with
  | 0, _, _ => exact h1
  | 1, _, _ => exact h2
  | 2, _, _ => exact h3
  | j + 3, h, _ => simp at h; omega
theorem ExtI.len {a b r s : Nat} {x u y v : Int} {N : Nat} (h : ExtI a b r s x u y v) (ha : a < BB ^ N) (hb : b < BB ^ N) :
    lN (r : Int) ≤ N + 1 ∧ lN (s : Int) ≤ N + 1 ∧ lN x ≤ N + 1 ∧ lN u ≤ N + 1 ∧ lN y ≤ N + 1 ∧ lN v ≤ N + 1 := by
  have e := BB_pow_succ N
  have h0 : 0 < BB ^ N := Nat.pow_pos (by decide)
  have h1 := h.le
  refine ⟨lN_of ?_, lN_of ?_, lN_of ?_, lN_of ?_, lN_of ?_, lN_of ?_⟩ <;> rcases h.st with ⟨k1, k2, rfl, rfl, rfl, rfl⟩ | ⟨k1, k2, k3, k4, k5, k6, k7⟩ <;> omega

set_option maxRecDepth 100000 in
theorem g_Ext (s : Bool) (a : List Nat) (t : Bool) (b : List Nat) (ha : a.length < 1000) (hb : b.length < 1000) : PCall Try.prog 24 [gI s a, gI t b] (.tup [eI (Int.gcd (iv s a) (iv t b) : Int), eI (extX (iv s a) (iv t b)), eI (extY (iv s a) (iv t b))]) := by
  refine pcall_of_wpA mixed Try.call24 Try.func24 rfl Try.ntmps24 Try.results24 (by simp) (by decide) ?_
  have hl1 := lN_iv s a
  have hl2 := lN_iv t b
  have haa := w_Abs s a (by omega)
  have hab := w_Abs t b (by omega)
  have hx1 : ∀ z : Int, lN z < 10000 → PCall Try.prog 58 [eI z, gI s a] (eI (z * (iv s a).sign)) := fun z hz => by
    have := g_Ext1 (decide (z < 0)) (dig z.natAbs) s a (by unfold lN at hz; omega) (by omega); rwa [iv_eI] at this
  have hx2 : ∀ z : Int, lN z < 10000 → PCall Try.prog 58 [eI z, gI t b] (eI (z * (iv t b).sign)) := fun z hz => by
    have := g_Ext1 (decide (z < 0)) (dig z.natAbs) t b (by unfold lN at hz; omega) (by omega); rwa [iv_eI] at this
  have hin := ExtI.start (iv s a).natAbs (iv t b).natAbs
  unfold extX extY Int.gcd
  generalize iv s a = A at *
  generalize iv t b = B at *
  obtain ⟨N, hN⟩ : ∃ N, N = max (lN A) (lN B) := ⟨_, rfl⟩
  have hA : A.natAbs < BB ^ N := Nat.lt_of_lt_of_le (lt_lN A) (Nat.pow_le_pow_right (by decide) (by omega))
  have hB : B.natAbs < BB ^ N := Nat.lt_of_lt_of_le (lt_lN B) (Nat.pow_le_pow_right (by decide) (by omega))
  have hdn := ext_done A.natAbs B.natAbs B.natAbs A.natAbs 1 0 0 1 hin rfl
  simp only [go_sem, reduceIte, Nat.reduceEqDiff, Nat.reduceLT, Nat.reduceLeDiff, Nat.reduceAdd, Nat.reduceSub, Nat.reduceMul, Nat.reducePow, Int.reduceNe, Int.reduceLT, Int.reduceLE, Int.reduceEq, Int.reduceToNat, Int.reduceNeg, Int.reduceAdd, Int.reduceSub, reduceCtorEq, not_false_eq_true, not_true_eq_false, ne_eq]
  refine regA_by 0 rfl ?_
  simp only [go_sem, reduceIte, Nat.reduceEqDiff, Nat.reduceLT, Nat.reduceLeDiff, Nat.reduceAdd, Nat.reduceSub, Nat.reduceMul, Nat.reducePow, Int.reduceNe, Int.reduceLT, Int.reduceLE, Int.reduceEq, Int.reduceToNat, Int.reduceNeg, Int.reduceAdd, Int.reduceSub, reduceCtorEq, not_false_eq_true, not_true_eq_false, ne_eq]
  refine call_pure haa rfl ?_
  simp only [go_sem, reduceIte, Nat.reduceEqDiff, Nat.reduceLT, Nat.reduceLeDiff, Nat.reduceAdd, Nat.reduceSub, Nat.reduceMul, Nat.reducePow, Int.reduceNe, Int.reduceLT, Int.reduceLE, Int.reduceEq, Int.reduceToNat, Int.reduceNeg, Int.reduceAdd, Int.reduceSub, reduceCtorEq, not_false_eq_true, not_true_eq_false, ne_eq]
  refine call_pure hab rfl ?_
  simp only [go_sem, reduceIte, Nat.reduceEqDiff, Nat.reduceLT, Nat.reduceLeDiff, Nat.reduceAdd, Nat.reduceSub, Nat.reduceMul, Nat.reducePow, Int.reduceNe, Int.reduceLT, Int.reduceLE, Int.reduceEq, Int.reduceToNat, Int.reduceNeg, Int.reduceAdd, Int.reduceSub, reduceCtorEq, not_false_eq_true, not_true_eq_false, ne_eq]
  refine call_pure (w_Of_e 1 (by decide) (by decide)) rfl ?_
  simp only [go_sem, reduceIte, Nat.reduceEqDiff, Nat.reduceLT, Nat.reduceLeDiff, Nat.reduceAdd, Nat.reduceSub, Nat.reduceMul, Nat.reducePow, Int.reduceNe, Int.reduceLT, Int.reduceLE, Int.reduceEq, Int.reduceToNat, Int.reduceNeg, Int.reduceAdd, Int.reduceSub, reduceCtorEq, not_false_eq_true, not_true_eq_false, ne_eq]
  refine call_pure (w_Of_e 0 (by decide) (by decide)) rfl ?_
  simp only [go_sem, reduceIte, Nat.reduceEqDiff, Nat.reduceLT, Nat.reduceLeDiff, Nat.reduceAdd, Nat.reduceSub, Nat.reduceMul, Nat.reducePow, Int.reduceNe, Int.reduceLT, Int.reduceLE, Int.reduceEq, Int.reduceToNat, Int.reduceNeg, Int.reduceAdd, Int.reduceSub, reduceCtorEq, not_false_eq_true, not_true_eq_false, ne_eq]
  refine call_pure (w_Of_e 0 (by decide) (by decide)) rfl ?_
  simp only [go_sem, reduceIte, Nat.reduceEqDiff, Nat.reduceLT, Nat.reduceLeDiff, Nat.reduceAdd, Nat.reduceSub, Nat.reduceMul, Nat.reducePow, Int.reduceNe, Int.reduceLT, Int.reduceLE, Int.reduceEq, Int.reduceToNat, Int.reduceNeg, Int.reduceAdd, Int.reduceSub, reduceCtorEq, not_false_eq_true, not_true_eq_false, ne_eq]
  refine call_pure (w_Of_e 1 (by decide) (by decide)) rfl ?_
  simp only [go_sem, reduceIte, Nat.reduceEqDiff, Nat.reduceLT, Nat.reduceLeDiff, Nat.reduceAdd, Nat.reduceSub, Nat.reduceMul, Nat.reducePow, Int.reduceNe, Int.reduceLT, Int.reduceLE, Int.reduceEq, Int.reduceToNat, Int.reduceNeg, Int.reduceAdd, Int.reduceSub, reduceCtorEq, not_false_eq_true, not_true_eq_false, ne_eq]
  refine loop_inv (fun p : Nat × Nat × Int × Int × Int × Int => stL 56 [(2, .one (.ptr 2 0)), (3, .one (.ptr 3 0)), (4, .one (.ptr 4 0)), (5, .one (.ptr 5 0)), (6, .one (.ptr 6 0)), (7, .one (.ptr 7 0)), (8, .one (.ptr 8 0)), (9, .one (.ptr 9 0)), (10, .one (.ptr 10 0)), (11, .one (.ptr 11 0)), (12, .one (.ptr 12 0))]
      [(2, [.t (.lit (.bool s)), .t (eN a)]), (3, [.t (.lit (.bool t)), .t (eN b)]), (4, cI0), (5, cI0), (6, cI0), (7, cE (p.1 : Int)), (8, cE (p.2.1 : Int)), (9, cE p.2.2.1), (10, cE p.2.2.2.1), (11, cE p.2.2.2.2.1), (12, cE p.2.2.2.2.2)])
      (fun p => ExtI A.natAbs B.natAbs p.1 p.2.1 p.2.2.1 p.2.2.2.1 p.2.2.2.2.1 p.2.2.2.2.2 ∧ Nat.gcd p.1 p.2.1 = Nat.gcd A.natAbs B.natAbs ∧ extN p.1 p.2.1 p.2.2.1 p.2.2.2.1 p.2.2.2.2.1 p.2.2.2.2.2 = extN A.natAbs B.natAbs 1 0 0 1) (fun p => p.2.1) (A.natAbs, B.natAbs, 1, 0, 0, 1) ?_ ⟨hin, rfl, rfl⟩ ?_
  · refine gstep_list rfl ?_ ?_ rfl rfl <;> simp only [go_sem, reduceIte, Nat.reduceEqDiff, Nat.reduceLT, Nat.reduceLeDiff, Nat.reduceAdd, Nat.reduceSub, Nat.reduceMul, Nat.reducePow, Int.reduceNe, Int.reduceLT, Int.reduceLE, Int.reduceEq, Int.reduceToNat, Int.reduceNeg, Int.reduceAdd, Int.reduceSub, reduceCtorEq, not_false_eq_true, not_true_eq_false, ne_eq] <;> simp
  · rintro ⟨r, q, x, u, y, v⟩ ⟨hi, hg, he⟩
    simp only at hi hg he ⊢
    obtain ⟨z1, z2, z3, z4, z5, z6⟩ := hi.len hA hB
    simp only [go_sem, reduceIte, Nat.reduceEqDiff, Nat.reduceLT, Nat.reduceLeDiff, Nat.reduceAdd, Nat.reduceSub, Nat.reduceMul, Nat.reducePow, Int.reduceNe, Int.reduceLT, Int.reduceLE, Int.reduceEq, Int.reduceToNat, Int.reduceNeg, Int.reduceAdd, Int.reduceSub, reduceCtorEq, not_false_eq_true, not_true_eq_false, ne_eq]
    refine call_pure (w_Sign_e (q : Int) (by omega)) rfl ?_
    by_cases hq : q = 0
    · subst hq
      have e0 : (0 : Int).sign = 0 := rfl
      rw [extN_zero] at he
      rw [Nat.gcd_zero_right] at hg
      rw [← he, ← hg]
      simp only [go_sem, reduceIte, Nat.reduceEqDiff, Nat.reduceLT, Nat.reduceLeDiff, Nat.reduceAdd, Nat.reduceSub, Nat.reduceMul, Nat.reducePow, Int.reduceNe, Int.reduceLT, Int.reduceLE, Int.reduceEq, Int.reduceToNat, Int.reduceNeg, Int.reduceAdd, Int.reduceSub, reduceCtorEq, not_false_eq_true, not_true_eq_false, ne_eq, e0]
      refine regA_bl 0 [(2, 2), (3, 3), (4, 4), (5, 5), (6, 6), (7, 7), (9, 9), (11, 11)] rfl (by simp only [goodB_cons, goodB_nil]; refine ⟨⟨0, ?_⟩, ⟨0, ?_⟩, ⟨0, ?_⟩, ⟨0, ?_⟩, ⟨0, ?_⟩, ⟨0, ?_⟩, ⟨0, ?_⟩, ⟨0, ?_⟩, trivial⟩ <;> simp only [go_sem, reduceIte, Nat.reduceEqDiff, Nat.reduceLT, Nat.reduceLeDiff, Nat.reduceAdd, Nat.reduceSub, Nat.reduceMul, Nat.reducePow, Int.reduceNe, Int.reduceLT, Int.reduceLE, Int.reduceEq, Int.reduceToNat, Int.reduceNeg, Int.reduceAdd, Int.reduceSub, reduceCtorEq, not_false_eq_true, not_true_eq_false, ne_eq]) ?_
      simp only [go_sem, reduceIte, Nat.reduceEqDiff, Nat.reduceLT, Nat.reduceLeDiff, Nat.reduceAdd, Nat.reduceSub, Nat.reduceMul, Nat.reducePow, Int.reduceNe, Int.reduceLT, Int.reduceLE, Int.reduceEq, Int.reduceToNat, Int.reduceNeg, Int.reduceAdd, Int.reduceSub, reduceCtorEq, not_false_eq_true, not_true_eq_false, ne_eq]
      refine call_pure (hx1 x (by omega)) rfl ?_
      simp only [go_sem, reduceIte, Nat.reduceEqDiff, Nat.reduceLT, Nat.reduceLeDiff, Nat.reduceAdd, Nat.reduceSub, Nat.reduceMul, Nat.reducePow, Int.reduceNe, Int.reduceLT, Int.reduceLE, Int.reduceEq, Int.reduceToNat, Int.reduceNeg, Int.reduceAdd, Int.reduceSub, reduceCtorEq, not_false_eq_true, not_true_eq_false, ne_eq]
      refine call_pure (hx2 y (by omega)) rfl ?_
      simp only [go_sem, reduceIte, Nat.reduceEqDiff, Nat.reduceLT, Nat.reduceLeDiff, Nat.reduceAdd, Nat.reduceSub, Nat.reduceMul, Nat.reducePow, Int.reduceNe, Int.reduceLT, Int.reduceLE, Int.reduceEq, Int.reduceToNat, Int.reduceNeg, Int.reduceAdd, Int.reduceSub, reduceCtorEq, not_false_eq_true, not_true_eq_false, ne_eq]
      exact fz_tup3 (fz_agg2 .t .t) (fz_agg2 .t .t) (fz_agg2 .t .t)
    · have hne : ¬ (q : Int).sign = 0 := fun e => hq (by have := Int.sign_eq_zero_iff_zero.1 e; omega)
      have heu := w_Euclid_e (r : Int) (q : Int) (by omega) (by omega)
      rw [← Int.natCast_ediv, ← Int.natCast_emod] at heu
      have hnx := hi.next hq
      obtain ⟨y1, y2, y3, y4, y5, y6⟩ := hnx.len hA hB
      have hql : lN ((r / q : Nat) : Int) ≤ N + 1 := Nat.le_trans (lN_le (by
        rw [Int.natAbs_natCast, Int.natAbs_natCast]; exact Nat.div_le_self ..)) z1
      have m1 := lN_mul ((r / q : Nat) : Int) u
      have m2 := lN_mul ((r / q : Nat) : Int) v
      have c1 := w_Mul_e ((r / q : Nat) : Int) u (by omega) (by omega)
      have c2 := w_Sub_e x (((r / q : Nat) : Int) * u) (by omega) (by omega)
      have c3 := w_Mul_e ((r / q : Nat) : Int) v (by omega) (by omega)
      have c4 := w_Sub_e y (((r / q : Nat) : Int) * v) (by omega) (by omega)
      rw [extN_succ hq] at he
      have hg' : Nat.gcd q (r % q) = Nat.gcd A.natAbs B.natAbs := by rw [← hg, Nat.gcd_comm q, ← Nat.gcd_rec, Nat.gcd_comm]
      have hlt := Nat.mod_lt r (Nat.pos_of_ne_zero hq)
      generalize r % q = r' at *
      generalize x - ((r / q : Nat) : Int) * u = u' at *
      generalize y - ((r / q : Nat) : Int) * v = v' at *
      generalize ((r / q : Nat) : Int) * u = w1 at *
      generalize ((r / q : Nat) : Int) * v = w2 at *
      generalize r / q = d at *
      simp only [go_sem, reduceIte, Nat.reduceEqDiff, Nat.reduceLT, Nat.reduceLeDiff, Nat.reduceAdd, Nat.reduceSub, Nat.reduceMul, Nat.reducePow, Int.reduceNe, Int.reduceLT, Int.reduceLE, Int.reduceEq, Int.reduceToNat, Int.reduceNeg, Int.reduceAdd, Int.reduceSub, reduceCtorEq, not_false_eq_true, not_true_eq_false, ne_eq, hne]
      refine call_pure heu rfl ?_
      simp only [go_sem, reduceIte, Nat.reduceEqDiff, Nat.reduceLT, Nat.reduceLeDiff, Nat.reduceAdd, Nat.reduceSub, Nat.reduceMul, Nat.reducePow, Int.reduceNe, Int.reduceLT, Int.reduceLE, Int.reduceEq, Int.reduceToNat, Int.reduceNeg, Int.reduceAdd, Int.reduceSub, reduceCtorEq, not_false_eq_true, not_true_eq_false, ne_eq]
      refine regA_bl 0 [(7, 7), (8, 8), (14, 14)] rfl (by simp only [goodB_cons, goodB_nil]; refine ⟨⟨0, ?_⟩, ⟨0, ?_⟩, ⟨0, ?_⟩, trivial⟩ <;> simp only [go_sem, reduceIte, Nat.reduceEqDiff, Nat.reduceLT, Nat.reduceLeDiff, Nat.reduceAdd, Nat.reduceSub, Nat.reduceMul, Nat.reducePow, Int.reduceNe, Int.reduceLT, Int.reduceLE, Int.reduceEq, Int.reduceToNat, Int.reduceNeg, Int.reduceAdd, Int.reduceSub, reduceCtorEq, not_false_eq_true, not_true_eq_false, ne_eq]) ?_
      simp only [go_sem, reduceIte, Nat.reduceEqDiff, Nat.reduceLT, Nat.reduceLeDiff, Nat.reduceAdd, Nat.reduceSub, Nat.reduceMul, Nat.reducePow, Int.reduceNe, Int.reduceLT, Int.reduceLE, Int.reduceEq, Int.reduceToNat, Int.reduceNeg, Int.reduceAdd, Int.reduceSub, reduceCtorEq, not_false_eq_true, not_true_eq_false, ne_eq]
      refine regA_bl 0 [(9, 9), (10, 10), (13, 13)] rfl (by simp only [goodB_cons, goodB_nil]; refine ⟨⟨0, ?_⟩, ⟨0, ?_⟩, ⟨0, ?_⟩, trivial⟩ <;> simp only [go_sem, reduceIte, Nat.reduceEqDiff, Nat.reduceLT, Nat.reduceLeDiff, Nat.reduceAdd, Nat.reduceSub, Nat.reduceMul, Nat.reducePow, Int.reduceNe, Int.reduceLT, Int.reduceLE, Int.reduceEq, Int.reduceToNat, Int.reduceNeg, Int.reduceAdd, Int.reduceSub, reduceCtorEq, not_false_eq_true, not_true_eq_false, ne_eq]) ?_
      simp only [go_sem, reduceIte, Nat.reduceEqDiff, Nat.reduceLT, Nat.reduceLeDiff, Nat.reduceAdd, Nat.reduceSub, Nat.reduceMul, Nat.reducePow, Int.reduceNe, Int.reduceLT, Int.reduceLE, Int.reduceEq, Int.reduceToNat, Int.reduceNeg, Int.reduceAdd, Int.reduceSub, reduceCtorEq, not_false_eq_true, not_true_eq_false, ne_eq]
      refine call_pure c1 rfl ?_
      simp only [go_sem, reduceIte, Nat.reduceEqDiff, Nat.reduceLT, Nat.reduceLeDiff, Nat.reduceAdd, Nat.reduceSub, Nat.reduceMul, Nat.reducePow, Int.reduceNe, Int.reduceLT, Int.reduceLE, Int.reduceEq, Int.reduceToNat, Int.reduceNeg, Int.reduceAdd, Int.reduceSub, reduceCtorEq, not_false_eq_true, not_true_eq_false, ne_eq]
      refine call_pure c2 rfl ?_
      simp only [go_sem, reduceIte, Nat.reduceEqDiff, Nat.reduceLT, Nat.reduceLeDiff, Nat.reduceAdd, Nat.reduceSub, Nat.reduceMul, Nat.reducePow, Int.reduceNe, Int.reduceLT, Int.reduceLE, Int.reduceEq, Int.reduceToNat, Int.reduceNeg, Int.reduceAdd, Int.reduceSub, reduceCtorEq, not_false_eq_true, not_true_eq_false, ne_eq]
      refine regA_bl 0 [(11, 11), (12, 12), (13, 13)] rfl (by simp only [goodB_cons, goodB_nil]; refine ⟨⟨0, ?_⟩, ⟨0, ?_⟩, ⟨0, ?_⟩, trivial⟩ <;> simp only [go_sem, reduceIte, Nat.reduceEqDiff, Nat.reduceLT, Nat.reduceLeDiff, Nat.reduceAdd, Nat.reduceSub, Nat.reduceMul, Nat.reducePow, Int.reduceNe, Int.reduceLT, Int.reduceLE, Int.reduceEq, Int.reduceToNat, Int.reduceNeg, Int.reduceAdd, Int.reduceSub, reduceCtorEq, not_false_eq_true, not_true_eq_false, ne_eq]) ?_
      simp only [go_sem, reduceIte, Nat.reduceEqDiff, Nat.reduceLT, Nat.reduceLeDiff, Nat.reduceAdd, Nat.reduceSub, Nat.reduceMul, Nat.reducePow, Int.reduceNe, Int.reduceLT, Int.reduceLE, Int.reduceEq, Int.reduceToNat, Int.reduceNeg, Int.reduceAdd, Int.reduceSub, reduceCtorEq, not_false_eq_true, not_true_eq_false, ne_eq]
      refine call_pure c3 rfl ?_
      simp only [go_sem, reduceIte, Nat.reduceEqDiff, Nat.reduceLT, Nat.reduceLeDiff, Nat.reduceAdd, Nat.reduceSub, Nat.reduceMul, Nat.reducePow, Int.reduceNe, Int.reduceLT, Int.reduceLE, Int.reduceEq, Int.reduceToNat, Int.reduceNeg, Int.reduceAdd, Int.reduceSub, reduceCtorEq, not_false_eq_true, not_true_eq_false, ne_eq]
      refine call_pure c4 rfl ?_
      simp only [go_sem, reduceIte, Nat.reduceEqDiff, Nat.reduceLT, Nat.reduceLeDiff, Nat.reduceAdd, Nat.reduceSub, Nat.reduceMul, Nat.reducePow, Int.reduceNe, Int.reduceLT, Int.reduceLE, Int.reduceEq, Int.reduceToNat, Int.reduceNeg, Int.reduceAdd, Int.reduceSub, reduceCtorEq, not_false_eq_true, not_true_eq_false, ne_eq]
      refine ⟨(q, r', u, u', v, v'), ⟨hnx, hg', he⟩, hlt, ?_⟩
      refine gstep_list rfl ?_ ?_ rfl rfl <;> simp only [go_sem, reduceIte, Nat.reduceEqDiff, Nat.reduceLT, Nat.reduceLeDiff, Nat.reduceAdd, Nat.reduceSub, Nat.reduceMul, Nat.reducePow, Int.reduceNe, Int.reduceLT, Int.reduceLE, Int.reduceEq, Int.reduceToNat, Int.reduceNeg, Int.reduceAdd, Int.reduceSub, reduceCtorEq, not_false_eq_true, not_true_eq_false, ne_eq] <;> simp
end Go.Proofs.Ytohpbppplfdieaa
