/- At every input the call answers true and leaves its arguments as they were; no conditions. -/
import Derived.Test.YtohpbppplfdieaaIb
set_option linter.unusedSimpArgs false
set_option linter.unusedVariables false
namespace Go.Proofs.Ytohpbppplfdieaa
open Go Go.Abs
set_option maxHeartbeats 4000000
/-- An element of a slice of integers. -/
def cI (p : Bool × List Nat) : List T := [.lit (.bool p.1), eN p.2]
theorem cI_len (p : Bool × List Nat) : (cI p).length = 2 := rfl
abbrev tLI (l : List (Bool × List Nat)) : TV := .one (eL cI l)
abbrev aLI (l : List (Bool × List Nat)) : AV := .one (.t (eL cI l))
/-- What divides all of some. -/
def gAll (l : List (Bool × List Nat)) : Nat := l.foldl (fun g p => Nat.gcd (iv p.1 p.2).natAbs g) 0
theorem gAll_snoc {l : List (Bool × List Nat)} {p : Bool × List Nat} : gAll (l ++ [p]) = Nat.gcd (iv p.1 p.2).natAbs (gAll l) := by unfold gAll; rw [List.foldl_append]; rfl
theorem gAll_len {N : Nat} : ∀ (l : List (Bool × List Nat)), (∀ p ∈ l, p.2.length ≤ N) → (dig (gAll l)).length ≤ N := by
  intro l
  suffices h : ∀ (l : List (Bool × List Nat)) (g : Nat), (dig g).length ≤ N → (∀ p ∈ l, p.2.length ≤ N) → (dig (l.foldl (fun g p => Nat.gcd (iv p.1 p.2).natAbs g) g)).length ≤ N from
    fun hl => h l 0 (by simp [dig_zero]) hl
  intro l
  induction l with
  | nil => intro g hg _; exact hg
  | cons p l ih =>
    intro g hg hl
    refine ih _ ?_ (fun q hq => hl q (by simp [hq]))
    have hp := lN_iv p.1 p.2
    have hp2 := hl p (by simp)
    have h1 := lt_lN (iv p.1 p.2)
    have hgl := val_lt (dig_lt g)
    rw [val_dig] at hgl
    have hlt : Nat.gcd (iv p.1 p.2).natAbs g < BB ^ max (lN (iv p.1 p.2)) (dig g).length := by
      by_cases hz : (iv p.1 p.2).natAbs = 0
      · rw [hz, Nat.gcd_zero_left]
        exact Nat.lt_of_lt_of_le hgl (Nat.pow_le_pow_right (by decide) (Nat.le_max_right ..))
      · exact Nat.lt_of_le_of_lt (Nat.gcd_le_left _ (by omega)) (Nat.lt_of_lt_of_le h1 (Nat.pow_le_pow_right (by decide) (Nat.le_max_left ..)))
    exact Nat.le_trans (dig_length_le hlt) (by omega)

set_option maxRecDepth 100000 in
theorem g_all (l : List (Bool × List Nat)) (hl : l.length < 1000000000) (hp : ∀ p ∈ l, p.2.length < 100000) : PCall Try.prog 56 [tLI l] (eI (gAll l : Int)) := by
  refine pcall_of_wpA mixed Try.call56 Try.func56 rfl Try.ntmps56 Try.results56 (by simp) (by decide) ?_
  simp only [go_sem, reduceIte, Nat.reduceEqDiff, Nat.reduceLT, Nat.reduceLeDiff, Nat.reduceAdd, Nat.reduceSub, Nat.reduceMul, Nat.reducePow, Int.reduceNe, Int.reduceLT, Int.reduceLE, Int.reduceEq, Int.reduceToNat, Int.reduceNeg, Int.reduceAdd, Int.reduceSub, reduceCtorEq, not_false_eq_true, not_true_eq_false, ne_eq]
  have e3 : eI (gAll l : Int) = gI false (dig (gAll l)) := by
    unfold eI; rw [Int.natAbs_natCast, decide_eq_false (by omega)]
  rw [e3]
  refine loop_inv (fun i : Nat => stL 20 [(2, .one (.ptr 2 0)), (3, aN (dig (gAll (l.take i)))), (6, aLI l), (7, litI .i64 l.length), (8, litI .i64 i)] [(2, [.t (.lit (.bool false)), .t (.seq (some true) [])])]) (fun i => i ≤ l.length) (fun i => l.length - i) 0 ?_ (Nat.zero_le _) ?_
  · refine GStep.trans (gstep_weakS 3 (nl := some true) (xs := []) (by simp only [go_sem, reduceIte, Nat.reduceEqDiff, Nat.reduceLT, Nat.reduceLeDiff, Nat.reduceAdd, Nat.reduceSub, Nat.reduceMul, Nat.reducePow, Int.reduceNe, Int.reduceLT, Int.reduceLE, Int.reduceEq, Int.reduceToNat, Int.reduceNeg, Int.reduceAdd, Int.reduceSub, reduceCtorEq, not_false_eq_true, not_true_eq_false, ne_eq])) ?_
    rw [List.take_zero, show gAll [] = 0 from rfl, dig_zero]
    refine gstep_list rfl ?_ ?_ rfl rfl <;> simp only [go_sem, reduceIte, Nat.reduceEqDiff, Nat.reduceLT, Nat.reduceLeDiff, Nat.reduceAdd, Nat.reduceSub, Nat.reduceMul, Nat.reducePow, Int.reduceNe, Int.reduceLT, Int.reduceLE, Int.reduceEq, Int.reduceToNat, Int.reduceNeg, Int.reduceAdd, Int.reduceSub, reduceCtorEq, not_false_eq_true, not_true_eq_false, ne_eq] <;> simp
    all_goals rfl
  · intro i hi
    simp only [go_sem, reduceIte, Nat.reduceEqDiff, Nat.reduceLT, Nat.reduceLeDiff, Nat.reduceAdd, Nat.reduceSub, Nat.reduceMul, Nat.reducePow, Int.reduceNe, Int.reduceLT, Int.reduceLE, Int.reduceEq, Int.reduceToNat, Int.reduceNeg, Int.reduceAdd, Int.reduceSub, reduceCtorEq, not_false_eq_true, not_true_eq_false, ne_eq]
    refine CondR_if (fun hlt => ?_) (fun hge => ?_)
    · have hlt' : i < l.length := by omega
      have hel : elemD cI l i = cI l[i] := elemD_lt hlt'
      have hlen := hp _ (List.getElem_mem hlt')
      have hacc := gAll_len (N := 99999) (l.take i) (fun p hpm => by have := hp p (List.mem_of_mem_take hpm); omega)
      have hab := w_Abs l[i].1 l[i].2 (by omega)
      have e0 : ∀ z : Int, eI (z.natAbs : Int) = gI false (dig z.natAbs) := fun z => by
        unfold eI; rw [show ((z.natAbs : Int)).natAbs = z.natAbs by omega, decide_eq_false (by omega)]
      rw [e0] at hab
      have hzl := lN_iv l[i].1 l[i].2
      unfold lN at hzl
      have hbo := g_both (iv l[i].1 l[i].2).natAbs (gAll (l.take i)) (by omega) (by omega)
      rw [← gAll_snoc, ← take_snoc hlt'] at hbo
      ((try simp only [go_sem, reduceIte, Nat.reduceEqDiff, Nat.reduceLT, Nat.reduceLeDiff, Nat.reduceAdd, Nat.reduceSub, Nat.reduceMul, Nat.reducePow, Int.reduceNe, Int.reduceLT, Int.reduceLE, Int.reduceEq, Int.reduceToNat, Int.reduceNeg, Int.reduceAdd, Int.reduceSub, reduceCtorEq, not_false_eq_true, not_true_eq_false, ne_eq, hel, cI]); (try simp (disch := omega) only [wrap_i64, wrap_u64, wrap_u32, elemD_lt, hel, cI]); (try simp only [go_sem, reduceIte, Nat.reduceEqDiff, Nat.reduceLT, Nat.reduceLeDiff, Nat.reduceAdd, Nat.reduceSub, Nat.reduceMul, Nat.reducePow, Int.reduceNe, Int.reduceLT, Int.reduceLE, Int.reduceEq, Int.reduceToNat, Int.reduceNeg, Int.reduceAdd, Int.reduceSub, reduceCtorEq, not_false_eq_true, not_true_eq_false, ne_eq, hel, cI]); (try simp (disch := omega) only [wrap_i64, wrap_u64, wrap_u32, elemD_lt, hel, cI]); (try simp only [go_sem, reduceIte, Nat.reduceEqDiff, Nat.reduceLT, Nat.reduceLeDiff, Nat.reduceAdd, Nat.reduceSub, Nat.reduceMul, Nat.reducePow, Int.reduceNe, Int.reduceLT, Int.reduceLE, Int.reduceEq, Int.reduceToNat, Int.reduceNeg, Int.reduceAdd, Int.reduceSub, reduceCtorEq, not_false_eq_true, not_true_eq_false, ne_eq, hel, cI]))
      refine ⟨by omega, ?_⟩
      refine call_pure hab rfl ?_
      ((try simp only [go_sem, reduceIte, Nat.reduceEqDiff, Nat.reduceLT, Nat.reduceLeDiff, Nat.reduceAdd, Nat.reduceSub, Nat.reduceMul, Nat.reducePow, Int.reduceNe, Int.reduceLT, Int.reduceLE, Int.reduceEq, Int.reduceToNat, Int.reduceNeg, Int.reduceAdd, Int.reduceSub, reduceCtorEq, not_false_eq_true, not_true_eq_false, ne_eq]); (try simp (disch := omega) only [wrap_i64, wrap_u64, wrap_u32, elemD_lt]); (try simp only [go_sem, reduceIte, Nat.reduceEqDiff, Nat.reduceLT, Nat.reduceLeDiff, Nat.reduceAdd, Nat.reduceSub, Nat.reduceMul, Nat.reducePow, Int.reduceNe, Int.reduceLT, Int.reduceLE, Int.reduceEq, Int.reduceToNat, Int.reduceNeg, Int.reduceAdd, Int.reduceSub, reduceCtorEq, not_false_eq_true, not_true_eq_false, ne_eq]); (try simp (disch := omega) only [wrap_i64, wrap_u64, wrap_u32, elemD_lt]); (try simp only [go_sem, reduceIte, Nat.reduceEqDiff, Nat.reduceLT, Nat.reduceLeDiff, Nat.reduceAdd, Nat.reduceSub, Nat.reduceMul, Nat.reducePow, Int.reduceNe, Int.reduceLT, Int.reduceLE, Int.reduceEq, Int.reduceToNat, Int.reduceNeg, Int.reduceAdd, Int.reduceSub, reduceCtorEq, not_false_eq_true, not_true_eq_false, ne_eq]))
      refine call_pure hbo rfl ?_
      ((try simp only [go_sem, reduceIte, Nat.reduceEqDiff, Nat.reduceLT, Nat.reduceLeDiff, Nat.reduceAdd, Nat.reduceSub, Nat.reduceMul, Nat.reducePow, Int.reduceNe, Int.reduceLT, Int.reduceLE, Int.reduceEq, Int.reduceToNat, Int.reduceNeg, Int.reduceAdd, Int.reduceSub, reduceCtorEq, not_false_eq_true, not_true_eq_false, ne_eq]); (try simp (disch := omega) only [wrap_i64, wrap_u64, wrap_u32, elemD_lt]); (try simp only [go_sem, reduceIte, Nat.reduceEqDiff, Nat.reduceLT, Nat.reduceLeDiff, Nat.reduceAdd, Nat.reduceSub, Nat.reduceMul, Nat.reducePow, Int.reduceNe, Int.reduceLT, Int.reduceLE, Int.reduceEq, Int.reduceToNat, Int.reduceNeg, Int.reduceAdd, Int.reduceSub, reduceCtorEq, not_false_eq_true, not_true_eq_false, ne_eq]); (try simp (disch := omega) only [wrap_i64, wrap_u64, wrap_u32, elemD_lt]); (try simp only [go_sem, reduceIte, Nat.reduceEqDiff, Nat.reduceLT, Nat.reduceLeDiff, Nat.reduceAdd, Nat.reduceSub, Nat.reduceMul, Nat.reducePow, Int.reduceNe, Int.reduceLT, Int.reduceLE, Int.reduceEq, Int.reduceToNat, Int.reduceNeg, Int.reduceAdd, Int.reduceSub, reduceCtorEq, not_false_eq_true, not_true_eq_false, ne_eq]))
      refine ⟨i + 1, hlt', (by show l.length - (i + 1) < l.length - i; omega), ?_⟩
      refine gstep_list rfl ?_ ?_ rfl rfl <;> ((try simp only [go_sem, reduceIte, Nat.reduceEqDiff, Nat.reduceLT, Nat.reduceLeDiff, Nat.reduceAdd, Nat.reduceSub, Nat.reduceMul, Nat.reducePow, Int.reduceNe, Int.reduceLT, Int.reduceLE, Int.reduceEq, Int.reduceToNat, Int.reduceNeg, Int.reduceAdd, Int.reduceSub, reduceCtorEq, not_false_eq_true, not_true_eq_false, ne_eq]); (try simp (disch := omega) only [wrap_i64, wrap_u64, wrap_u32, elemD_lt]); (try simp only [go_sem, reduceIte, Nat.reduceEqDiff, Nat.reduceLT, Nat.reduceLeDiff, Nat.reduceAdd, Nat.reduceSub, Nat.reduceMul, Nat.reducePow, Int.reduceNe, Int.reduceLT, Int.reduceLE, Int.reduceEq, Int.reduceToNat, Int.reduceNeg, Int.reduceAdd, Int.reduceSub, reduceCtorEq, not_false_eq_true, not_true_eq_false, ne_eq]); (try simp (disch := omega) only [wrap_i64, wrap_u64, wrap_u32, elemD_lt]); (try simp only [go_sem, reduceIte, Nat.reduceEqDiff, Nat.reduceLT, Nat.reduceLeDiff, Nat.reduceAdd, Nat.reduceSub, Nat.reduceMul, Nat.reducePow, Int.reduceNe, Int.reduceLT, Int.reduceLE, Int.reduceEq, Int.reduceToNat, Int.reduceNeg, Int.reduceAdd, Int.reduceSub, reduceCtorEq, not_false_eq_true, not_true_eq_false, ne_eq])) <;> simp
    · have : i = l.length := by omega
      subst this
      rw [List.take_length]
      simp only [go_sem, reduceIte, Nat.reduceEqDiff, Nat.reduceLT, Nat.reduceLeDiff, Nat.reduceAdd, Nat.reduceSub, Nat.reduceMul, Nat.reducePow, Int.reduceNe, Int.reduceLT, Int.reduceLE, Int.reduceEq, Int.reduceToNat, Int.reduceNeg, Int.reduceAdd, Int.reduceSub, reduceCtorEq, not_false_eq_true, not_true_eq_false, ne_eq]
      exact fz_agg2 .t .t
end Go.Proofs.Ytohpbppplfdieaa
namespace Go.Proofs.Ytohpbppplfdieaa
open Go Go.Abs
set_option maxHeartbeats 4000000
set_option maxRecDepth 100000 in
theorem g_All (l : List (Bool × List Nat)) (hl : l.length < 1000000000) (hp : ∀ p ∈ l, p.2.length < 100000) : PCall Try.prog 22 [tLI l] (eI (gAll l : Int)) := by
  refine pcall_of_wpA mixed Try.call22 Try.func22 rfl Try.ntmps22 Try.results22 (by simp) (by decide) ?_
  simp only [go_sem, reduceIte, Nat.reduceEqDiff, Nat.reduceLT, Nat.reduceLeDiff, Nat.reduceAdd, Nat.reduceSub, Nat.reduceMul, Nat.reducePow, Int.reduceNe, Int.reduceLT, Int.reduceLE, Int.reduceEq, Int.reduceToNat, Int.reduceNeg, Int.reduceAdd, Int.reduceSub, reduceCtorEq, not_false_eq_true, not_true_eq_false, ne_eq]
  refine call_pure (g_all l hl hp) rfl ?_
  simp only [go_sem, reduceIte, Nat.reduceEqDiff, Nat.reduceLT, Nat.reduceLeDiff, Nat.reduceAdd, Nat.reduceSub, Nat.reduceMul, Nat.reducePow, Int.reduceNe, Int.reduceLT, Int.reduceLE, Int.reduceEq, Int.reduceToNat, Int.reduceNeg, Int.reduceAdd, Int.reduceSub, reduceCtorEq, not_false_eq_true, not_true_eq_false, ne_eq]
  exact fz_agg2 .t .t

theorem gAll_two (s : Bool) (a : List Nat) (t : Bool) (b : List Nat) : gAll [(s, a), (t, b)] = Int.gcd (iv s a) (iv t b) := by
  show Nat.gcd (iv t b).natAbs (Nat.gcd (iv s a).natAbs 0) = _
  rw [Nat.gcd_zero_right, Nat.gcd_comm]; rfl

set_option maxRecDepth 100000 in
theorem g_Of (s : Bool) (a : List Nat) (t : Bool) (b : List Nat) (ha : a.length < 100000) (hb : b.length < 100000) : PCall Try.prog 19 [gI s a, gI t b] (eI (Int.gcd (iv s a) (iv t b) : Int)) := by
  refine pcall_of_wpA mixed Try.call19 Try.func19 rfl Try.ntmps19 Try.results19 (by simp) (by decide) ?_
  simp only [go_sem, reduceIte, Nat.reduceEqDiff, Nat.reduceLT, Nat.reduceLeDiff, Nat.reduceAdd, Nat.reduceSub, Nat.reduceMul, Nat.reducePow, Int.reduceNe, Int.reduceLT, Int.reduceLE, Int.reduceEq, Int.reduceToNat, Int.reduceNeg, Int.reduceAdd, Int.reduceSub, reduceCtorEq, not_false_eq_true, not_true_eq_false, ne_eq]
  have hall := g_all [(s, a), (t, b)] (by simp) (by simp; omega)
  rw [gAll_two] at hall
  refine opA_build 7 2 [.t (.lit (.bool false)), .t (.seq (some true) [])] (cs := cellsL cI [(s, a), (t, b)]) rfl (Nat.le_refl _) (by simp only [go_sem, reduceIte, Nat.reduceEqDiff, Nat.reduceLT, Nat.reduceLeDiff, Nat.reduceAdd, Nat.reduceSub, Nat.reduceMul, Nat.reducePow, Int.reduceNe, Int.reduceLT, Int.reduceLE, Int.reduceEq, Int.reduceToNat, Int.reduceNeg, Int.reduceAdd, Int.reduceSub, reduceCtorEq, not_false_eq_true, not_true_eq_false, ne_eq] <;> decide) (by simp only [go_sem, reduceIte, Nat.reduceEqDiff, Nat.reduceLT, Nat.reduceLeDiff, Nat.reduceAdd, Nat.reduceSub, Nat.reduceMul, Nat.reducePow, Int.reduceNe, Int.reduceLT, Int.reduceLE, Int.reduceEq, Int.reduceToNat, Int.reduceNeg, Int.reduceAdd, Int.reduceSub, reduceCtorEq, not_false_eq_true, not_true_eq_false, ne_eq] <;> rfl) (by simp only [go_sem, reduceIte, Nat.reduceEqDiff, Nat.reduceLT, Nat.reduceLeDiff, Nat.reduceAdd, Nat.reduceSub, Nat.reduceMul, Nat.reducePow, Int.reduceNe, Int.reduceLT, Int.reduceLE, Int.reduceEq, Int.reduceToNat, Int.reduceNeg, Int.reduceAdd, Int.reduceSub, reduceCtorEq, not_false_eq_true, not_true_eq_false, ne_eq]) (by decide) ?_
  simp only [go_sem, reduceIte, Nat.reduceEqDiff, Nat.reduceLT, Nat.reduceLeDiff, Nat.reduceAdd, Nat.reduceSub, Nat.reduceMul, Nat.reducePow, Int.reduceNe, Int.reduceLT, Int.reduceLE, Int.reduceEq, Int.reduceToNat, Int.reduceNeg, Int.reduceAdd, Int.reduceSub, reduceCtorEq, not_false_eq_true, not_true_eq_false, ne_eq]
  refine call_frz 7 2 2 (Nat.le_refl _) hall (by simp only [go_sem, reduceIte, Nat.reduceEqDiff, Nat.reduceLT, Nat.reduceLeDiff, Nat.reduceAdd, Nat.reduceSub, Nat.reduceMul, Nat.reducePow, Int.reduceNe, Int.reduceLT, Int.reduceLE, Int.reduceEq, Int.reduceToNat, Int.reduceNeg, Int.reduceAdd, Int.reduceSub, reduceCtorEq, not_false_eq_true, not_true_eq_false, ne_eq] <;> rfl) (treeOf_L (f := cI) (xs := [(s, a), (t, b)]) cI_len) ?_ ?_
  · simp only [go_sem, reduceIte, Nat.reduceEqDiff, Nat.reduceLT, Nat.reduceLeDiff, Nat.reduceAdd, Nat.reduceSub, Nat.reduceMul, Nat.reducePow, Int.reduceNe, Int.reduceLT, Int.reduceLE, Int.reduceEq, Int.reduceToNat, Int.reduceNeg, Int.reduceAdd, Int.reduceSub, reduceCtorEq, not_false_eq_true, not_true_eq_false, ne_eq] <;> rfl
  · simp only [go_sem, reduceIte, Nat.reduceEqDiff, Nat.reduceLT, Nat.reduceLeDiff, Nat.reduceAdd, Nat.reduceSub, Nat.reduceMul, Nat.reducePow, Int.reduceNe, Int.reduceLT, Int.reduceLE, Int.reduceEq, Int.reduceToNat, Int.reduceNeg, Int.reduceAdd, Int.reduceSub, reduceCtorEq, not_false_eq_true, not_true_eq_false, ne_eq]
    exact fz_agg2 .t .t
theorem g_Of_e (x y : Int) (ha : lN x < 100000) (hb : lN y < 100000) : PCall Try.prog 19 [eI x, eI y] (eI (Int.gcd x y : Int)) := by
  have := g_Of (decide (x < 0)) (dig x.natAbs) (decide (y < 0)) (dig y.natAbs) ha hb; rwa [iv_eI, iv_eI] at this

set_option maxRecDepth 100000 in
theorem g_Lcm (s : Bool) (a : List Nat) (t : Bool) (b : List Nat) (ha : a.length < 1000) (hb : b.length < 1000) : PCall Try.prog 20 [gI s a, gI t b] (eI (Int.lcm (iv s a) (iv t b) : Int)) := by
  refine pcall_of_wpA mixed Try.call20 Try.func20 rfl Try.ntmps20 Try.results20 (by simp) (by decide) ?_
  simp only [go_sem, reduceIte, Nat.reduceEqDiff, Nat.reduceLT, Nat.reduceLeDiff, Nat.reduceAdd, Nat.reduceSub, Nat.reduceMul, Nat.reducePow, Int.reduceNe, Int.reduceLT, Int.reduceLE, Int.reduceEq, Int.reduceToNat, Int.reduceNeg, Int.reduceAdd, Int.reduceSub, reduceCtorEq, not_false_eq_true, not_true_eq_false, ne_eq]
  refine call_pure (g_Of s a t b (by omega) (by omega)) rfl ?_
  have hl1 := lN_iv s a
  have hl2 := lN_iv t b
  have hsa := w_Sign s a (by omega)
  have hsb := w_Sign t b (by omega)
  have haa := w_Abs s a (by omega)
  have hab := w_Abs t b (by omega)
  generalize iv s a = x at *
  generalize iv t b = y at *
  simp only [go_sem, reduceIte, Nat.reduceEqDiff, Nat.reduceLT, Nat.reduceLeDiff, Nat.reduceAdd, Nat.reduceSub, Nat.reduceMul, Nat.reducePow, Int.reduceNe, Int.reduceLT, Int.reduceLE, Int.reduceEq, Int.reduceToNat, Int.reduceNeg, Int.reduceAdd, Int.reduceSub, reduceCtorEq, not_false_eq_true, not_true_eq_false, ne_eq]
  refine call_pure hsa rfl ?_
  by_cases hx : x = 0
  · subst hx
    have e0 : (0 : Int).sign = 0 := rfl
    rw [show (Int.lcm 0 y : Int) = 0 by simp, eI_zero]
    simp only [go_sem, reduceIte, Nat.reduceEqDiff, Nat.reduceLT, Nat.reduceLeDiff, Nat.reduceAdd, Nat.reduceSub, Nat.reduceMul, Nat.reducePow, Int.reduceNe, Int.reduceLT, Int.reduceLE, Int.reduceEq, Int.reduceToNat, Int.reduceNeg, Int.reduceAdd, Int.reduceSub, reduceCtorEq, not_false_eq_true, not_true_eq_false, ne_eq, e0]
    exact fz_agg2 .t .weak
  · have hnx : ¬ x.sign = 0 := fun e => hx (Int.sign_eq_zero_iff_zero.1 e)
    simp only [go_sem, reduceIte, Nat.reduceEqDiff, Nat.reduceLT, Nat.reduceLeDiff, Nat.reduceAdd, Nat.reduceSub, Nat.reduceMul, Nat.reducePow, Int.reduceNe, Int.reduceLT, Int.reduceLE, Int.reduceEq, Int.reduceToNat, Int.reduceNeg, Int.reduceAdd, Int.reduceSub, reduceCtorEq, not_false_eq_true, not_true_eq_false, ne_eq, hnx]
    refine call_pure hsb rfl ?_
    by_cases hy : y = 0
    · subst hy
      have e0 : (0 : Int).sign = 0 := rfl
      rw [show (Int.lcm x 0 : Int) = 0 by simp, eI_zero]
      simp only [go_sem, reduceIte, Nat.reduceEqDiff, Nat.reduceLT, Nat.reduceLeDiff, Nat.reduceAdd, Nat.reduceSub, Nat.reduceMul, Nat.reducePow, Int.reduceNe, Int.reduceLT, Int.reduceLE, Int.reduceEq, Int.reduceToNat, Int.reduceNeg, Int.reduceAdd, Int.reduceSub, reduceCtorEq, not_false_eq_true, not_true_eq_false, ne_eq, e0]
      exact fz_agg2 .t .weak
    · have hny : ¬ y.sign = 0 := fun e => hy (Int.sign_eq_zero_iff_zero.1 e)
      have hlg := lN_gcd x y
      have hla := lN_abs x
      have hlb := lN_abs y
      have hfl := w_Euclid_e (x.natAbs : Int) (Int.gcd x y : Int) (by omega) (by omega)
      have hq : lN ((x.natAbs : Int) / (Int.gcd x y : Int)) ≤ lN x := by
        refine lN_le ?_
        have := Int.natAbs_ediv_le_natAbs (x.natAbs : Int) (Int.gcd x y : Int); omega
      have hml := w_Mul_e ((x.natAbs : Int) / (Int.gcd x y : Int)) (y.natAbs : Int) (by omega) (by omega)
      have hlaw : (x.natAbs : Int) / (Int.gcd x y : Int) * (y.natAbs : Int) = (Int.lcm x y : Int) := by
        unfold Int.gcd Int.lcm Nat.lcm
        rw [← Int.natCast_ediv, ← Int.natCast_mul]
        congr 1
        rw [Nat.div_mul_right_comm (Nat.gcd_dvd_left ..)]
      rw [hlaw] at hml
      simp only [go_sem, reduceIte, Nat.reduceEqDiff, Nat.reduceLT, Nat.reduceLeDiff, Nat.reduceAdd, Nat.reduceSub, Nat.reduceMul, Nat.reducePow, Int.reduceNe, Int.reduceLT, Int.reduceLE, Int.reduceEq, Int.reduceToNat, Int.reduceNeg, Int.reduceAdd, Int.reduceSub, reduceCtorEq, not_false_eq_true, not_true_eq_false, ne_eq, hny]
      refine regA_by 0 rfl ?_
      simp only [go_sem, reduceIte, Nat.reduceEqDiff, Nat.reduceLT, Nat.reduceLeDiff, Nat.reduceAdd, Nat.reduceSub, Nat.reduceMul, Nat.reducePow, Int.reduceNe, Int.reduceLT, Int.reduceLE, Int.reduceEq, Int.reduceToNat, Int.reduceNeg, Int.reduceAdd, Int.reduceSub, reduceCtorEq, not_false_eq_true, not_true_eq_false, ne_eq]
      refine call_pure haa rfl ?_
      simp only [go_sem, reduceIte, Nat.reduceEqDiff, Nat.reduceLT, Nat.reduceLeDiff, Nat.reduceAdd, Nat.reduceSub, Nat.reduceMul, Nat.reducePow, Int.reduceNe, Int.reduceLT, Int.reduceLE, Int.reduceEq, Int.reduceToNat, Int.reduceNeg, Int.reduceAdd, Int.reduceSub, reduceCtorEq, not_false_eq_true, not_true_eq_false, ne_eq]
      refine call_pure hfl rfl ?_
      simp only [go_sem, reduceIte, Nat.reduceEqDiff, Nat.reduceLT, Nat.reduceLeDiff, Nat.reduceAdd, Nat.reduceSub, Nat.reduceMul, Nat.reducePow, Int.reduceNe, Int.reduceLT, Int.reduceLE, Int.reduceEq, Int.reduceToNat, Int.reduceNeg, Int.reduceAdd, Int.reduceSub, reduceCtorEq, not_false_eq_true, not_true_eq_false, ne_eq]
      refine regA_by 0 rfl ?_
      simp only [go_sem, reduceIte, Nat.reduceEqDiff, Nat.reduceLT, Nat.reduceLeDiff, Nat.reduceAdd, Nat.reduceSub, Nat.reduceMul, Nat.reducePow, Int.reduceNe, Int.reduceLT, Int.reduceLE, Int.reduceEq, Int.reduceToNat, Int.reduceNeg, Int.reduceAdd, Int.reduceSub, reduceCtorEq, not_false_eq_true, not_true_eq_false, ne_eq]
      refine call_pure hab rfl ?_
      simp only [go_sem, reduceIte, Nat.reduceEqDiff, Nat.reduceLT, Nat.reduceLeDiff, Nat.reduceAdd, Nat.reduceSub, Nat.reduceMul, Nat.reducePow, Int.reduceNe, Int.reduceLT, Int.reduceLE, Int.reduceEq, Int.reduceToNat, Int.reduceNeg, Int.reduceAdd, Int.reduceSub, reduceCtorEq, not_false_eq_true, not_true_eq_false, ne_eq]
      refine call_pure hml rfl ?_
      simp only [go_sem, reduceIte, Nat.reduceEqDiff, Nat.reduceLT, Nat.reduceLeDiff, Nat.reduceAdd, Nat.reduceSub, Nat.reduceMul, Nat.reducePow, Int.reduceNe, Int.reduceLT, Int.reduceLE, Int.reduceEq, Int.reduceToNat, Int.reduceNeg, Int.reduceAdd, Int.reduceSub, reduceCtorEq, not_false_eq_true, not_true_eq_false, ne_eq]
      exact fz_agg2 .t .t
theorem g_Lcm_e (x y : Int) (ha : lN x < 1000) (hb : lN y < 1000) : PCall Try.prog 20 [eI x, eI y] (eI (Int.lcm x y : Int)) := by
  have := g_Lcm (decide (x < 0)) (dig x.natAbs) (decide (y < 0)) (dig y.natAbs) ha hb; rwa [iv_eI, iv_eI] at this

theorem sign_len (x : Int) : lN x.sign ≤ 1 := lN_of (by
  rcases sign3 x with ⟨_, h⟩ | ⟨_, h⟩ | ⟨_, h⟩ <;> rw [h] <;> decide)
set_option maxRecDepth 100000 in
theorem g_Ext1 (s : Bool) (a : List Nat) (t : Bool) (b : List Nat) (ha : a.length < 10000000) (hb : b.length < 10000000) : PCall Try.prog 58 [gI s a, gI t b] (eI (iv s a * (iv t b).sign)) := by
  refine pcall_of_wpA mixed Try.call58 Try.func58 rfl Try.ntmps58 Try.results58 (by simp) (by decide) ?_
  simp only [go_sem, reduceIte, Nat.reduceEqDiff, Nat.reduceLT, Nat.reduceLeDiff, Nat.reduceAdd, Nat.reduceSub, Nat.reduceMul, Nat.reducePow, Int.reduceNe, Int.reduceLT, Int.reduceLE, Int.reduceEq, Int.reduceToNat, Int.reduceNeg, Int.reduceAdd, Int.reduceSub, reduceCtorEq, not_false_eq_true, not_true_eq_false, ne_eq]
  have hs := sign3 (iv t b)
  have hof := w_Of_e (iv t b).sign (by omega) (by omega)
  have hsl := sign_len (iv t b)
  have hml := w_Mul s a (decide ((iv t b).sign < 0)) (dig (iv t b).sign.natAbs) ha (by unfold lN at hsl; omega)
  rw [iv_eI] at hml
  refine regA_by 0 rfl ?_
  simp only [go_sem, reduceIte, Nat.reduceEqDiff, Nat.reduceLT, Nat.reduceLeDiff, Nat.reduceAdd, Nat.reduceSub, Nat.reduceMul, Nat.reducePow, Int.reduceNe, Int.reduceLT, Int.reduceLE, Int.reduceEq, Int.reduceToNat, Int.reduceNeg, Int.reduceAdd, Int.reduceSub, reduceCtorEq, not_false_eq_true, not_true_eq_false, ne_eq]
  refine call_pure (w_Sign t b (by omega)) rfl ?_
  simp only [go_sem, reduceIte, Nat.reduceEqDiff, Nat.reduceLT, Nat.reduceLeDiff, Nat.reduceAdd, Nat.reduceSub, Nat.reduceMul, Nat.reducePow, Int.reduceNe, Int.reduceLT, Int.reduceLE, Int.reduceEq, Int.reduceToNat, Int.reduceNeg, Int.reduceAdd, Int.reduceSub, reduceCtorEq, not_false_eq_true, not_true_eq_false, ne_eq]
  refine call_pure hof rfl ?_
  simp only [go_sem, reduceIte, Nat.reduceEqDiff, Nat.reduceLT, Nat.reduceLeDiff, Nat.reduceAdd, Nat.reduceSub, Nat.reduceMul, Nat.reducePow, Int.reduceNe, Int.reduceLT, Int.reduceLE, Int.reduceEq, Int.reduceToNat, Int.reduceNeg, Int.reduceAdd, Int.reduceSub, reduceCtorEq, not_false_eq_true, not_true_eq_false, ne_eq]
  refine call_pure hml rfl ?_
  simp only [go_sem, reduceIte, Nat.reduceEqDiff, Nat.reduceLT, Nat.reduceLeDiff, Nat.reduceAdd, Nat.reduceSub, Nat.reduceMul, Nat.reducePow, Int.reduceNe, Int.reduceLT, Int.reduceLE, Int.reduceEq, Int.reduceToNat, Int.reduceNeg, Int.reduceAdd, Int.reduceSub, reduceCtorEq, not_false_eq_true, not_true_eq_false, ne_eq]
  exact fz_agg2 .t .t
end Go.Proofs.Ytohpbppplfdieaa
