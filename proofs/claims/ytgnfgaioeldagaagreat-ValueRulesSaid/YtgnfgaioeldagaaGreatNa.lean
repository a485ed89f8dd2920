/- At every input the call answers true and leaves its arguments as they were; no conditions. -/
import Derived.Test.YtgnfgaioeldagaaGreatMc
import Derived.Test.YtgnfgaioeldagaaGreatTa
set_option linter.unusedSimpArgs false
set_option linter.unusedVariables false
namespace Go.Proofs.YtgnfgaioeldagaaGreat
open Go Go.Abs
attribute [go_sem] reduceIte Nat.reduceEqDiff Nat.reduceLT Nat.reduceLeDiff Nat.reduceAdd Nat.reduceSub Nat.reduceMul Nat.reducePow Int.reduceNe Int.reduceLT Int.reduceLE Int.reduceEq Int.reduceToNat Int.reduceNeg Int.reduceAdd Int.reduceSub reduceCtorEq not_false_eq_true not_true_eq_false ne_eq
theorem mixed : Tryz.prog.follows .mixedOrders = true := by kernel_rfl
def limb (n : Nat) : List T := [.lit (.int .u32 (n : Int))]
attribute [go_sem] limb
theorem limb_len (x : Nat) : (limb x).length = 1 := rfl
abbrev eN (xs : List Nat) : T := eL limb xs
abbrev cN (xs : List Nat) : List C := cellsL limb xs
abbrev tN (xs : List Nat) : TV := .one (eN xs)
abbrev aN (xs : List Nat) : AV := .one (.t (eN xs))
abbrev tB (b : Bool) : TV := .one (.lit (.bool b))
abbrev tI (k : IntKind) (n : Int) : TV := .one (.lit (.int k n))
theorem cN_at {xs : List Nat} {i : Nat} (hi : i < xs.length) : (cN xs).drop i = .t (.lit (.int .u32 (xs[i] : Int))) :: cN (xs.drop (i + 1)) := by
  have := cellsL_at (f := limb) (sz := 1) limb_len hi; rwa [Nat.mul_one] at this
theorem cN_set {xs : List Nat} {i : Nat} (hi : i < xs.length) {y : Nat} : setCs (cN xs) i [.t (.lit (.int .u32 (y : Int)))] = cN (xs.set i y) := by
  have := cellsL_set (f := limb) (sz := 1) limb_len hi (y := y); rwa [Nat.mul_one] at this
theorem cN_len {xs : List Nat} : (cN xs).length = xs.length := by rw [cellsL_length limb_len, Nat.mul_one]
theorem cN_app {xs : List Nat} {y : Nat} : cN xs ++ [.t (.lit (.int .u32 (y : Int)))] = cN (xs ++ [y]) := by unfold cN; rw [cellsL_append]; rfl
theorem cN_one {y : Nat} : [C.t (.lit (.int .u32 (y : Int)))] = cN [y] := rfl
theorem cN_tree {xs : List Nat} : (cN xs).all treeC = true := by
  simp only [cN, cellsL, List.all_eq_true, List.mem_map]
  rintro x ⟨y, _, rfl⟩; rfl
end Go.Proofs.YtgnfgaioeldagaaGreat
namespace Go.Proofs.YtgnfgaioeldagaaGreat
open Go Go.Abs

set_option maxRecDepth 100000 in
theorem p_nat_Is (xs : List Nat) (hl : xs.length < 30000000000000) : PCall Tryz.prog 115 [tN xs] (tB (decide (IsN xs))) := by
  refine pcall_of_wpA mixed Tryz.call115 Tryz.func115 rfl Tryz.ntmps115 Tryz.results115 (by simp) (by decide) ?_
  simp only [go_sem]
  refine loop_inv (fun i : Nat => stL 26 [(0, .one (.t (eN xs))), (5, .one (.t (eN xs))), (6, litI .i64 xs.length), (7, litI .i64 i)] []) (fun i => i ≤ xs.length ∧ ∀ j (h : j < xs.length), j < i → xs[j] < 1000000000) (fun i => xs.length - i) 0 ?_ ⟨Nat.zero_le _, fun j h hj => absurd hj (Nat.not_lt_zero _)⟩ ?_
  · refine gstep_list rfl ?_ ?_ rfl rfl <;> simp only [go_sem] <;> simp
  · rintro i ⟨hi, hpre⟩
    simp only [go_sem]
    refine CondR_if (fun hlt => ?_) (fun hge => ?_)
    · have hlt' : i < xs.length := by omega
      simp only [go_sem, elemD_lt hlt', hlt]
      refine ⟨by omega, CondR_if (fun h => ?_) (fun h => ?_)⟩
      · simp only [go_sem]
        symm
        simp only [decide_eq_false_iff_not]
        intro hc
        have := hc.1 xs[i] (List.getElem_mem _)
        simp only [BB] at this; omega
      · simp only [go_sem]
        refine ⟨i + 1, ⟨hlt', fun j hj hji => ?_⟩, (by show xs.length - (i + 1) < xs.length - i; omega), ?_⟩
        · by_cases e : j = i
          · subst e; omega
          · exact hpre j hj (by omega)
        · refine gstep_list rfl ?_ ?_ rfl rfl <;> simp only [go_sem, wrap_i64 (n := (i : Int) + 1) (by omega) (by omega)] <;> simp
    · have hge' : i = xs.length := by omega
      subst hge'
      have hall : ∀ x ∈ xs, x < BB := fun x hx => by
        obtain ⟨j, hj, rfl⟩ := List.mem_iff_getElem.1 hx
        exact hpre j hj hj
      simp only [go_sem]
      cases hx : xs with
      | nil =>
        simp only [go_sem]
        rfl
      | cons x l =>
        rw [hx] at hl hall
        simp only [List.length_cons] at hl
        have hne : ¬ ((l.length : Int) + 1 = 0) := by omega
        have hlen : l.length < (x :: l).length := by simp
        ((try simp only [go_sem, hne, show (l.length : Int) + 1 - 1 = (l.length : Int) by omega]); (try simp (disch := omega) only [wrap_i64, wrap_u64, wrap_u32, elemD_lt, hne, show (l.length : Int) + 1 - 1 = (l.length : Int) by omega]); (try simp only [go_sem, hne, show (l.length : Int) + 1 - 1 = (l.length : Int) by omega]); (try simp (disch := omega) only [wrap_i64, wrap_u64, wrap_u32, elemD_lt, hne, show (l.length : Int) + 1 - 1 = (l.length : Int) by omega]); (try simp only [go_sem, hne, show (l.length : Int) + 1 - 1 = (l.length : Int) by omega]))
        have e : (x :: l).getLast? = some ((x :: l)[l.length]) := by simp [List.getLast?_eq_getElem?]
        have hiff : IsN (x :: l) ↔ (x :: l)[l.length] ≠ 0 := by
          unfold IsN; rw [e]; simp only [ne_eq, Option.some.injEq]
          exact ⟨fun h => h.2, fun h => ⟨hall, h⟩⟩
        refine ⟨by omega, ?_⟩
        rw [decide_eq_decide, hiff]
        omega

set_option maxRecDepth 100000 in
theorem p_nat_held (xs : List Nat) (hl : xs.length < 30000000000000) : PCall Tryz.prog 154 [tN xs] (tN (held xs)) := by
  refine pcall_of_wpA mixed Tryz.call154 Tryz.func154 rfl Tryz.ntmps154 Tryz.results154 (by simp) (by decide) ?_
  simp only [go_sem]
  refine call_pure (p_nat_Is xs hl) rfl ?_
  by_cases h : IsN xs
  · simp only [go_sem, h, held]
    exact fz_eL
  · simp only [go_sem, h, held]
    exact fz_nil

set_option maxRecDepth 100000 in
theorem p_nat_trim (xs : List Nat) (hl : xs.length < 30000000000000) : PCall Tryz.prog 165 [tN xs] (tN (trimZ xs)) := by
  refine pcall_of_wpA mixed Tryz.call165 Tryz.func165 rfl Tryz.ntmps165 Tryz.results165 (by simp) (by decide) ?_
  simp only [go_sem]
  refine loop_inv (fun ys : List Nat => stL 21 [(0, aN ys)] []) (fun ys => ys.length ≤ xs.length ∧ trimZ ys = trimZ xs) (fun ys => ys.length) xs ?_ ⟨Nat.le_refl _, rfl⟩ ?_
  · refine gstep_list rfl ?_ ?_ rfl rfl <;> simp only [go_sem] <;> simp
  · rintro ys ⟨hi, hpre⟩
    simp only [go_sem]
    rcases List.eq_nil_or_concat ys with rfl | ⟨l, x, rfl⟩
    · simp only [go_sem]
      rw [← hpre]; exact fz_eL
    · simp only [List.concat_eq_append] at *
      have hlen : (l ++ [x]).length = l.length + 1 := by simp
      rw [hlen] at hi
      have hlt : l.length < (l ++ [x]).length := by omega
      have hpos : (0 : Int) < (l.length : Int) + 1 := by omega
      have hg : (l ++ [x])[l.length] = x := by simp
      ((try simp only [go_sem, hpos, hlen, show (l.length : Int) + 1 - 1 = (l.length : Int) by omega, hg]); (try simp (disch := omega) only [wrap_i64, wrap_u64, wrap_u32, elemD_lt, hpos, hlen, show (l.length : Int) + 1 - 1 = (l.length : Int) by omega, hg]); (try simp only [go_sem, hpos, hlen, show (l.length : Int) + 1 - 1 = (l.length : Int) by omega, hg]); (try simp (disch := omega) only [wrap_i64, wrap_u64, wrap_u32, elemD_lt, hpos, hlen, show (l.length : Int) + 1 - 1 = (l.length : Int) by omega, hg]); (try simp only [go_sem, hpos, hlen, show (l.length : Int) + 1 - 1 = (l.length : Int) by omega, hg]))
      refine ⟨by omega, CondR_if (fun h => ?_) (fun h => ?_)⟩
      · have hx : x = 0 := by omega
        subst hx
        ((try simp only [go_sem, hpos, hlen, show (l.length : Int) + 1 - 1 = (l.length : Int) by omega, hg, show (0 : Int) ≤ (l.length : Int) by omega, show (l ++ [0]).take l.length = l by simp]); (try simp (disch := omega) only [wrap_i64, wrap_u64, wrap_u32, elemD_lt, hpos, hlen, show (l.length : Int) + 1 - 1 = (l.length : Int) by omega, hg, show (0 : Int) ≤ (l.length : Int) by omega, show (l ++ [0]).take l.length = l by simp]); (try simp only [go_sem, hpos, hlen, show (l.length : Int) + 1 - 1 = (l.length : Int) by omega, hg, show (0 : Int) ≤ (l.length : Int) by omega, show (l ++ [0]).take l.length = l by simp]); (try simp (disch := omega) only [wrap_i64, wrap_u64, wrap_u32, elemD_lt, hpos, hlen, show (l.length : Int) + 1 - 1 = (l.length : Int) by omega, hg, show (0 : Int) ≤ (l.length : Int) by omega, show (l ++ [0]).take l.length = l by simp]); (try simp only [go_sem, hpos, hlen, show (l.length : Int) + 1 - 1 = (l.length : Int) by omega, hg, show (0 : Int) ≤ (l.length : Int) by omega, show (l ++ [0]).take l.length = l by simp]))
        refine ⟨⟨Nat.zero_le _, by omega⟩, l, ⟨by omega, by rw [← hpre, trimZ_snoc]⟩, by simp, ?_⟩
        refine gstep_list rfl ?_ ?_ rfl rfl <;> simp only [go_sem] <;> simp
      · simp only [go_sem]
        rw [← hpre, trimZ_last (by simp; omega)]; exact fz_eL

set_option maxRecDepth 100000 in
theorem p_nat_Of (n : Nat) (hn : n < 18446744073709551616) : PCall Tryz.prog 112 [tI .u64 n] (tN (dig n)) := by
  refine pcall_of_wpA mixed Tryz.call112 Tryz.func112 rfl Tryz.ntmps112 Tryz.results112 (by simp) (by decide) ?_
  simp only [go_sem]
  have hd3 : (dig n).length ≤ 3 := dig_length_le (by simp only [BB]; omega)
  refine loop_inv (fun p : Nat × List Nat => match p.2 with
      | [] => stL 15 [(0, litI .u64 p.1), (3, .one (.t (.seq (some true) [])))] []
      | _ :: _ => stL 15 [(0, litI .u64 p.1), (3, .one (.vec 13 1 0 p.2.length))] [(13, cN p.2)]) (fun p => p.1 ≤ n ∧ p.2 ++ dig p.1 = dig n) (fun p => p.1) (n, []) ?_ ⟨Nat.le_refl _, rfl⟩ ?_
  · refine gstep_list rfl ?_ ?_ rfl rfl <;> simp only [go_sem] <;> simp
  · rintro ⟨m, l⟩ ⟨hm, hinv⟩
    simp only at hm hinv
    have hlen : l.length ≤ 3 := by have := congrArg List.length hinv; simp at this; omega
    by_cases h0 : m = 0
    · subst h0
      rw [dig_zero, List.append_nil] at hinv
      rw [← hinv]
      cases l with
      | nil => simp only [go_sem]; exact fz_nil
      | cons x t => simp only [go_sem]; exact fz_vecA limb_len (by simp only [go_sem]) rfl
    · have hpos : (0 : Int) < (m : Int) := by omega
      have hw : m / 1000000000 ≤ m := Nat.div_le_self _ _
      have hmod : m % 1000000000 < 1000000000 := Nat.mod_lt _ (by decide)
      cases l with
      | nil =>
        ((try simp only [go_sem, hpos, tmodB, tdivB]); (try simp (disch := omega) only [wrap_i64, wrap_u64, wrap_u32, elemD_lt, hpos, tmodB, tdivB]); (try simp only [go_sem, hpos, tmodB, tdivB]); (try simp (disch := omega) only [wrap_i64, wrap_u64, wrap_u32, elemD_lt, hpos, tmodB, tdivB]); (try simp only [go_sem, hpos, tmodB, tdivB]))
        refine opA_app_nil (Nat.le_refl _) (sz := 1) (bytes := 4) (by simp only [go_sem, AppTy] <;> decide) limb_len [m % 1000000000] (by simp only [go_sem] <;> rfl) (by simp only [go_sem] <;> rfl) rfl (by simp) (by simp) (by simp only [go_sem]) (by decide) ?_
        ((try simp only [go_sem, tdivB]); (try simp (disch := omega) only [wrap_i64, wrap_u64, wrap_u32, elemD_lt, tdivB]); (try simp only [go_sem, tdivB]); (try simp (disch := omega) only [wrap_i64, wrap_u64, wrap_u32, elemD_lt, tdivB]); (try simp only [go_sem, tdivB]))
        refine ⟨(m / 1000000000, [m % 1000000000]), ⟨by omega, ?_⟩, by show m / 1000000000 < m; omega, ?_⟩
        · rw [← hinv]; simp only [List.nil_append]; rw [dig_pos h0]; rfl
        · refine gstep_list rfl ?_ ?_ rfl ?_ <;> simp only [go_sem, cellsL_refs] <;> simp
      | cons x t =>
        ((try simp only [go_sem, hpos, tmodB, tdivB]); (try simp (disch := omega) only [wrap_i64, wrap_u64, wrap_u32, elemD_lt, hpos, tmodB, tdivB]); (try simp only [go_sem, hpos, tmodB, tdivB]); (try simp (disch := omega) only [wrap_i64, wrap_u64, wrap_u32, elemD_lt, hpos, tmodB, tdivB]); (try simp only [go_sem, hpos, tmodB, tdivB]))
        refine opA_app_vec (Nat.le_refl _) (sz := 1) (bytes := 4) (by simp only [go_sem, AppTy] <;> decide) limb_len (x :: t) [m % 1000000000] (by simp only [go_sem] <;> rfl) rfl (by simp only [go_sem]) (by simp only [go_sem] <;> rfl) rfl (by simp only [List.length_cons] at *; simp; omega) (by decide) ?_
        ((try simp only [go_sem, tdivB]); (try simp (disch := omega) only [wrap_i64, wrap_u64, wrap_u32, elemD_lt, tdivB]); (try simp only [go_sem, tdivB]); (try simp (disch := omega) only [wrap_i64, wrap_u64, wrap_u32, elemD_lt, tdivB]); (try simp only [go_sem, tdivB]))
        refine ⟨(m / 1000000000, x :: t ++ [m % 1000000000]), ⟨by omega, ?_⟩, by show m / 1000000000 < m; omega, ?_⟩
        · rw [← hinv, dig_pos h0]; simp
        · refine gstep_list rfl ?_ ?_ rfl ?_ <;> simp only [go_sem, cellsL_refs] <;> simp

end Go.Proofs.YtgnfgaioeldagaaGreat
namespace Go.Proofs.YtgnfgaioeldagaaGreat
open Go Go.Abs
def cmpI (a b : Int) : Int := if a < b then -1 else if b < a then 1 else 0

set_option maxRecDepth 100000 in
theorem p_isNaN_int (a : Int) : PCall Tryz.prog 168 [tI .i64 a] (tB false) := by
  refine pcall_of_wpA mixed Tryz.call168 Tryz.func168 rfl Tryz.ntmps168 Tryz.results168 (by simp) (by decide) ?_
  simp only [go_sem, eq_self, not_true]
set_option maxRecDepth 100000 in
theorem p_isNaN_u32 (a : Int) : PCall Tryz.prog 169 [tI .u32 a] (tB false) := by
  refine pcall_of_wpA mixed Tryz.call169 Tryz.func169 rfl Tryz.ntmps169 Tryz.results169 (by simp) (by decide) ?_
  simp only [go_sem, eq_self, not_true]
set_option maxRecDepth 100000 in
theorem p_Compare_int (a b : Int) : PCall Tryz.prog 155 [tI .i64 a, tI .i64 b] (tI .i64 (cmpI a b)) := by
  refine pcall_of_wpA mixed Tryz.call155 Tryz.func155 rfl Tryz.ntmps155 Tryz.results155 (by simp) (by decide) ?_
  simp only [go_sem]
  refine call_pure (p_isNaN_int a) rfl ?_
  simp only [go_sem]
  refine call_pure (p_isNaN_int b) rfl ?_
  simp only [go_sem]
  refine CondR_if (fun h => ?_) (fun h => ?_)
  · simp only [go_sem, cmpI, h]
  · simp only [go_sem]
    refine CondR_if (fun h' => ?_) (fun h' => ?_)
    · simp only [go_sem, cmpI, h, h']
    · simp only [go_sem, cmpI, h, h']
set_option maxRecDepth 100000 in
theorem p_Compare_u32 (a b : Int) : PCall Tryz.prog 156 [tI .u32 a, tI .u32 b] (tI .i64 (cmpI a b)) := by
  refine pcall_of_wpA mixed Tryz.call156 Tryz.func156 rfl Tryz.ntmps156 Tryz.results156 (by simp) (by decide) ?_
  simp only [go_sem]
  refine call_pure (p_isNaN_u32 a) rfl ?_
  simp only [go_sem]
  refine call_pure (p_isNaN_u32 b) rfl ?_
  simp only [go_sem]
  refine CondR_if (fun h => ?_) (fun h => ?_)
  · simp only [go_sem, cmpI, h]
  · simp only [go_sem]
    refine CondR_if (fun h' => ?_) (fun h' => ?_)
    · simp only [go_sem, cmpI, h, h']
    · simp only [go_sem, cmpI, h, h']

theorem val_split {xs : List Nat} {i : Nat} (hi : i < xs.length) : val xs = val (xs.take i) + BB ^ i * (xs[i] + BB * val (xs.drop (i + 1))) := by
  have h1 : xs = xs.take i ++ xs.drop i := (List.take_append_drop i xs).symm
  have h2 : xs.drop i = xs[i] :: xs.drop (i + 1) := List.drop_eq_getElem_cons hi
  conv => lhs; rw [h1, val_append, h2]
  rw [List.length_take, Nat.min_eq_left (by omega)]; rfl

theorem val_lt_len {xs ys : List Nat} (hx : IsN xs) (hy : IsN ys) (h : xs.length < ys.length) : val xs < val ys := by
  have h1 := val_lt hx.1
  have h2 := val_ge hy (by intro e; subst e; simp at h)
  have h3 : BB ^ xs.length ≤ BB ^ (ys.length - 1) := Nat.pow_le_pow_right (by decide) (by omega)
  omega

theorem val_lt_at {xs ys : List Nat} {i : Nat} (hx : ∀ x ∈ xs, x < BB) (hi : i < xs.length) (hi' : i < ys.length) (hd : xs.drop (i + 1) = ys.drop (i + 1)) (h : xs[i] < ys[i]) : val xs < val ys := by
  rw [val_split hi, val_split hi', hd]
  have h1 : val (xs.take i) < BB ^ i := by
    have := val_lt (xs := xs.take i) fun x hx' => hx x (List.mem_of_mem_take hx')
    rwa [List.length_take, Nat.min_eq_left (by omega)] at this
  have h2 : BB ^ i * (xs[i] + BB * val (ys.drop (i + 1)) + 1) ≤ BB ^ i * (ys[i] + BB * val (ys.drop (i + 1))) := Nat.mul_le_mul_left _ (by omega)
  rw [Nat.mul_add _ _ 1, Nat.mul_one] at h2
  omega

set_option maxRecDepth 100000 in
theorem p_nat_Cmp (a b : List Nat) (ha : a.length < 30000000000000) (hb : b.length < 30000000000000) : PCall Tryz.prog 139 [tN a, tN b] (tI .i64 (cmpI (vN a) (vN b))) := by
  refine pcall_of_wpA mixed Tryz.call139 Tryz.func139 rfl Tryz.ntmps139 Tryz.results139 (by simp) (by decide) ?_
  simp only [go_sem]
  refine call_pure (p_nat_held a ha) rfl ?_
  simp only [go_sem]
  refine call_pure (p_nat_held b hb) rfl ?_
  have ha1 := held_length a
  have hb1 := held_length b
  have hA := IsN_held a
  have hB := IsN_held b
  unfold vN
  generalize held a = x at *
  generalize held b = y at *
  simp only [go_sem]
  refine CondR_if (fun h => ?_) (fun h => ?_)
  · simp only [go_sem]
    refine call_pure (p_Compare_int _ _) rfl ?_
    simp only [go_sem]
    have : x.length ≠ y.length := by omega
    rcases Nat.lt_or_ge x.length y.length with h1 | h1
    · have := val_lt_len hA hB h1
      unfold cmpI; rw [if_pos (by omega), if_pos (by omega)]
    · have := val_lt_len hB hA (by omega)
      unfold cmpI; rw [if_neg (by omega), if_pos (by omega), if_neg (by omega), if_pos (by omega)]
  · have hlen : x.length = y.length := by omega
    simp only [go_sem]
    refine loop_inv (fun k : Nat => stL 45 [(0, aN x), (1, aN y), (5, litI .i64 ((k : Int) - 1))] []) (fun k => k ≤ x.length ∧ x.drop k = y.drop k) (fun k => k) x.length ?_ ⟨Nat.le_refl _, by rw [List.drop_length, hlen, List.drop_length]⟩ ?_
    · refine gstep_list rfl ?_ ?_ rfl rfl <;> simp only [go_sem, wrap_i64 (n := (x.length : Int) - 1) (by omega) (by omega)] <;> simp
    · rintro k ⟨hk, hd⟩
      simp only [go_sem]
      refine CondR_if (fun hlt => ?_) (fun hge => ?_)
      · obtain ⟨i, rfl⟩ : ∃ i, k = i + 1 := ⟨k - 1, by omega⟩
        have hx : i < x.length := by omega
        have hy : i < y.length := by omega
        have e : ((i : Int) + 1 - 1) = i := by omega
        simp only [go_sem, e]
        refine regA_by 0 rfl ?_
        ((try simp only [go_sem, e]); (try simp (disch := omega) only [wrap_i64, wrap_u64, wrap_u32, elemD_lt, e]); (try simp only [go_sem, e]); (try simp (disch := omega) only [wrap_i64, wrap_u64, wrap_u32, elemD_lt, e]); (try simp only [go_sem, e]))
        refine ⟨by omega, by omega, CondR_if (fun h => ?_) (fun h => ?_)⟩
        · simp only [go_sem]
          refine regA_by 0 rfl ?_
          ((try simp only [go_sem, e]); (try simp (disch := omega) only [wrap_i64, wrap_u64, wrap_u32, elemD_lt, e]); (try simp only [go_sem, e]); (try simp (disch := omega) only [wrap_i64, wrap_u64, wrap_u32, elemD_lt, e]); (try simp only [go_sem, e]))
          refine ⟨by omega, by omega, ?_⟩
          refine call_pure (p_Compare_u32 _ _) rfl ?_
          simp only [go_sem]
          have hne : x[i] ≠ y[i] := by omega
          rcases Nat.lt_or_ge x[i] y[i] with h1 | h1
          · have := val_lt_at hA.1 hx hy hd h1
            unfold cmpI; rw [if_pos (by omega), if_pos (by omega)]
          · have := val_lt_at hB.1 hy hx hd.symm (by omega)
            unfold cmpI; rw [if_neg (by omega), if_pos (by omega), if_neg (by omega), if_pos (by omega)]
        · simp only [go_sem]
          refine ⟨i, ⟨by omega, ?_⟩, Nat.lt_succ_self i, ?_⟩
          · rw [List.drop_eq_getElem_cons hx, List.drop_eq_getElem_cons hy, hd, show x[i] = y[i] by omega]
          · refine gstep_list rfl ?_ ?_ rfl rfl <;> simp only [go_sem, e, wrap_i64 (n := (i : Int) - 1) (by omega) (by omega)] <;> simp
      · have hk0 : k = 0 := by omega
        subst hk0
        simp only [go_sem]
        have : x = y := by simpa using hd
        subst this
        unfold cmpI; rw [if_neg (by omega), if_neg (by omega)]

end Go.Proofs.YtgnfgaioeldagaaGreat
namespace Go.Proofs.YtgnfgaioeldagaaGreat
open Go Go.Abs

def msz (ll : List (List Nat)) : Nat := ll.foldl (fun m a => max m a.length) 0
theorem msz_snoc {l : List (List Nat)} {a : List Nat} : msz (l ++ [a]) = max (msz l) a.length := by simp [msz, List.foldl_append]
theorem take_snoc {α : Type} {l : List α} {i : Nat} (h : i < l.length) : l.take (i + 1) = l.take i ++ [l[i]] := by
  rw [List.take_add_one, List.getElem?_eq_getElem h]; rfl
theorem foldl_max_ge {ll : List (List Nat)} : ∀ {m : Nat}, m ≤ ll.foldl (fun m a => max m a.length) m ∧ ∀ a ∈ ll, a.length ≤ ll.foldl (fun m a => max m a.length) m := by
  induction ll with
  | nil => intro m; exact ⟨Nat.le_refl _, by simp⟩
  | cons b l ih =>
    intro m
    simp only [List.foldl_cons]
    have h := @ih (max m b.length)
    refine ⟨by have := h.1; omega, fun a ha => ?_⟩
    rcases List.mem_cons.1 ha with rfl | ha
    · have := h.1; omega
    · exact h.2 a ha
theorem msz_ge {ll : List (List Nat)} {a : List Nat} (h : a ∈ ll) : a.length ≤ msz ll := foldl_max_ge.2 a h
theorem msz_le {ll : List (List Nat)} {N : Nat} (h : ∀ a ∈ ll, a.length ≤ N) : msz ll ≤ N := by
  unfold msz
  suffices ∀ (m : Nat), m ≤ N → ll.foldl (fun m a => max m a.length) m ≤ N from this 0 (Nat.zero_le _)
  induction ll with
  | nil => intro m hm; exact hm
  | cons b l ih =>
    intro m hm
    exact ih (fun a ha => h a (List.mem_cons_of_mem _ ha)) _ (by have := h b (List.mem_cons_self ..); show max m b.length ≤ N; omega)

def col (ll : List (List Nat)) (k : Nat) : Nat := (ll.map fun a => a.getD k 0).sum
def low (ll : List (List Nat)) (k : Nat) : Nat := (ll.map fun a => val (a.take k)).sum
theorem val_take {a : List Nat} {k : Nat} : val (a.take (k + 1)) = val (a.take k) + BB ^ k * a.getD k 0 := by
  by_cases h : k < a.length
  · rw [take_snoc h, val_append, List.length_take, Nat.min_eq_left (by omega)]
    simp [val, h]
  · rw [List.take_of_length_le (by omega), List.take_of_length_le (by omega)]
    simp [show a.length ≤ k by omega]
theorem low_zero {ll : List (List Nat)} : low ll 0 = 0 := by
  unfold low
  induction ll with
  | nil => rfl
  | cons a l ih => rw [List.map_cons, List.sum_cons, ih]; rfl
theorem low_succ {ll : List (List Nat)} {k : Nat} : low ll (k + 1) = low ll k + BB ^ k * col ll k := by
  unfold low col
  induction ll with
  | nil => rfl
  | cons a l ih => rw [List.map_cons, List.sum_cons, ih, val_take, List.map_cons, List.sum_cons, List.map_cons, List.sum_cons, Nat.mul_add]; omega
theorem col_snoc {l : List (List Nat)} {a : List Nat} {k : Nat} : col (l ++ [a]) k = col l k + a.getD k 0 := by simp [col]
theorem col_le {ll : List (List Nat)} {k : Nat} (h : ∀ a ∈ ll, ∀ x ∈ a, x < BB) : col ll k ≤ ll.length * 999999999 := by
  unfold col
  induction ll with
  | nil => simp
  | cons a l ih =>
    have := ih fun b hb => h b (List.mem_cons_of_mem _ hb)
    have h1 : a.getD k 0 ≤ 999999999 := by
      by_cases hk : k < a.length
      · have := h a (List.mem_cons_self ..) a[k] (List.getElem_mem hk)
        simp [hk]; simp only [BB] at this; omega
      · simp [show a.length ≤ k by omega]
    simp only [List.map_cons, List.sum_cons, List.length_cons]; omega
theorem low_lt {ll : List (List Nat)} {n : Nat} (h : ∀ a ∈ ll, ∀ x ∈ a, x < BB) (hn : ∀ a ∈ ll, a.length ≤ n) (hl : ll.length < BB) : (ll.map val).sum < BB ^ (n + 1) := by
  have h1 : (ll.map val).sum ≤ ll.length * BB ^ n := by
    clear hl
    induction ll with
    | nil => simp
    | cons a l ih =>
      have := ih (fun b hb => h b (List.mem_cons_of_mem _ hb)) (fun b hb => hn b (List.mem_cons_of_mem _ hb))
      have h1 := val_lt (h a (List.mem_cons_self ..))
      have h2 : BB ^ a.length ≤ BB ^ n := Nat.pow_le_pow_right (by decide) (hn a (List.mem_cons_self ..))
      simp only [List.map_cons, List.sum_cons, List.length_cons, Nat.add_mul]; omega
  have h2 : 0 < BB ^ n := Nat.pow_pos (by decide)
  have h3 : ll.length * BB ^ n < BB * BB ^ n := Nat.mul_lt_mul_of_pos_right hl h2
  rw [Nat.pow_succ, Nat.mul_comm (BB ^ n)]; omega
/-- What a sum's columns have made so far. -/
def SumI (ll : List (List Nat)) (k : Nat) (ds : List Nat) (c : Nat) : Prop := ds.length = k ∧ (∀ x ∈ ds, x < BB) ∧ c ≤ ll.length ∧ val ds + BB ^ k * c = low ll k
theorem SumI.next {ll : List (List Nat)} {k c : Nat} {ds : List Nat} (hs : SumI ll k ds c) (h : ∀ a ∈ ll, ∀ x ∈ a, x < BB) : SumI ll (k + 1) (ds ++ [(c + col ll k) % BB]) ((c + col ll k) / BB) := by
  obtain ⟨h1, h2, h3, h4⟩ := hs
  have hc := col_le (k := k) h
  have hB : BB = 1000000000 := rfl
  refine ⟨by simp [h1], ?_, ?_, ?_⟩
  · intro x hx
    rcases List.mem_append.1 hx with hx | hx
    · exact h2 x hx
    · simp at hx; subst hx; exact Nat.mod_lt _ (by decide)
  · rw [hB]; omega
  · rw [val_append, h1, low_succ, ← h4]
    have := Nat.mod_add_div (c + col ll k) BB
    simp only [val, Nat.mul_zero, Nat.add_zero]
    rw [Nat.pow_succ, Nat.mul_assoc, Nat.add_assoc, ← Nat.mul_add, this, Nat.mul_add]; omega
theorem SumI.done {ll : List (List Nat)} {k c : Nat} {ds : List Nat} (hs : SumI ll (k + 1) ds c) (h : ∀ a ∈ ll, ∀ x ∈ a, x < BB) (hn : ∀ a ∈ ll, a.length ≤ k) (hl : ll.length < BB) : trimZ ds = dig (ll.map val).sum := by
  obtain ⟨h1, h2, h3, h4⟩ := hs
  rw [trimZ_lt h2]
  have e : low ll (k + 1) = (ll.map val).sum := by
    unfold low; congr 1
    apply List.map_congr_left; intro a ha
    rw [List.take_of_length_le (by have := hn a ha; omega)]
  have := low_lt h hn hl
  rw [e] at h4
  have : c = 0 := by
    rcases Nat.eq_zero_or_pos c with h | h
    · exact h
    · have : BB ^ (k + 1) * 1 ≤ BB ^ (k + 1) * c := Nat.mul_le_mul_left _ h
      omega
  subst this
  rw [← h4, Nat.mul_zero, Nat.add_zero]

def lst (a : List Nat) : List T := [eN a]
attribute [go_sem] lst
abbrev eLL (ll : List (List Nat)) : T := eL lst ll
abbrev aLL (ll : List (List Nat)) : AV := .one (.t (eLL ll))

theorem cN_repl {n : Nat} : repl n [C.t (.lit (.int .u32 0))] = cN (List.replicate n 0) := cellsL_repl (f := limb) (x := 0)
theorem cN_sd {xs : List Nat} {i : Nat} (hi : i < xs.length) {y : Nat} : (cN xs).take i ++ C.t (.lit (.int .u32 (y : Int))) :: (cN xs).drop (i + 1) = cN (xs.set i y) := by
  rw [← cN_set hi]; simp [setCs]
theorem set_fill {ds : List Nat} {k S y : Nat} (h : ds.length = k) (hk : k < S) : (ds ++ List.replicate (S - k) 0).set k y = ds ++ [y] ++ List.replicate (S - (k + 1)) 0 := by
  rw [List.set_append, if_neg (by omega), h, Nat.sub_self, show S - k = (S - (k + 1)) + 1 by omega, List.replicate_succ, List.set_cons_zero, List.append_assoc]; rfl
set_option maxRecDepth 100000 in
theorem p_nat_sum (ll : List (List Nat)) (hl : ll.length < 1000000) (hlen : ∀ a ∈ ll, a.length < 10000000000000) (hb : ∀ a ∈ ll, ∀ x ∈ a, x < BB) : PCall Tryz.prog 164 [.one (eLL ll)] (tN (dig (ll.map val).sum)) := by
  refine pcall_of_wpA mixed Tryz.call164 Tryz.func164 rfl Tryz.ntmps164 Tryz.results164 (by simp) (by decide) ?_
  simp only [go_sem]
  have hmsz : ∀ i, msz (ll.take i) < 10000000000000 := fun i => by
    have := msz_le (ll := ll.take i) (N := 9999999999999) fun a ha => by have := hlen a (List.mem_of_mem_take ha); omega
    omega
  refine loop_inv (fun i : Nat => stL 59 [(0, aLL ll), (3, litI .i64 (msz (ll.take i))), (11, aLL ll), (12, litI .i64 ll.length), (13, litI .i64 i)] []) (fun i => i ≤ ll.length) (fun i => ll.length - i) 0 ?_ (Nat.zero_le _) ?_
  · refine gstep_list rfl ?_ ?_ rfl rfl <;> simp only [go_sem] <;> simp [msz]
  · intro i hi
    simp only [go_sem]
    refine CondR_if (fun hlt => ?_) (fun hge => ?_)
    · have hlt' : i < ll.length := by omega
      have hm := hmsz i
      have hm' := hlen _ (List.getElem_mem hlt')
      simp only [go_sem, elemD_lt hlt', hlt]
      refine ⟨by omega, ?_⟩
      refine opA_max rfl (by simp only [go_sem] <;> rfl) (by simp only [go_sem] <;> rfl) (Nat.le_refl _) ?_
      simp only [go_sem]
      refine ⟨i + 1, hlt', (by show ll.length - (i + 1) < ll.length - i; omega), ?_⟩
      have e : (if (ll[i].length : Int) > (msz (ll.take i) : Int) then (ll[i].length : Int) else (msz (ll.take i) : Int)) = ((max (msz (ll.take i)) ll[i].length : Nat) : Int) := by split <;> omega
      refine gstep_list rfl ?_ ?_ rfl rfl <;> simp only [go_sem, wrap_i64 (n := (i : Int) + 1) (by omega) (by omega), take_snoc hlt', msz_snoc, e] <;> simp
    · have hge' : i = ll.length := by omega
      subst hge'
      rw [List.take_length]
      have hm := hmsz ll.length
      rw [List.take_length] at hm
      ((try simp only [go_sem]); (try simp (disch := omega) only [wrap_i64, wrap_u64, wrap_u32, elemD_lt]); (try simp only [go_sem]); (try simp (disch := omega) only [wrap_i64, wrap_u64, wrap_u32, elemD_lt]); (try simp only [go_sem]))
      refine ⟨by omega, ?_⟩
      generalize hS : msz ll + 1 = S at *
      have hS' : (msz ll : Int) + 1 = (S : Int) := by omega
      have hwS : IntKind.wrap .i64 (S : Int) = S := wrap_i64 (by omega) (by omega)
      refine loop_inv (fun p : Nat × List Nat × Nat => stL 59 [(0, aLL ll), (6, .one (.vec 24 1 0 S)), (7, litI .u64 p.2.2), (26, litI .i64 S), (27, litI .i64 p.1)] [(24, cN (p.2.1 ++ List.replicate (S - p.1) 0))])
        (fun p => p.1 ≤ S ∧ SumI ll p.1 p.2.1 p.2.2) (fun p => S - p.1) (0, [], 0) ?_ ⟨Nat.zero_le _, rfl, by simp, Nat.zero_le _, by rw [low_zero]; rfl⟩ ?_
      · refine gstep_list rfl ?_ ?_ rfl ?_ <;> simp only [go_sem, hS', cellsL_refs, cN_repl] <;> simp
      · rintro ⟨k, ds, c⟩ ⟨hk, hs⟩
        simp only at hk hs ⊢
        simp only [go_sem]
        refine CondR_if (fun hlt => ?_) (fun hge => ?_)
        · have hlt' : k < S := by omega
          have hc := hs.2.2.1
          simp only [go_sem]
          refine loop_inv (fun j : Nat => stL 59 [(0, aLL ll), (6, .one (.vec 24 1 0 S)), (7, litI .u64 ((c + col (ll.take j) k : Nat) : Int)), (8, litI .i64 k), (26, litI .i64 S), (27, litI .i64 k), (30, aLL ll), (31, litI .i64 ll.length), (32, litI .i64 j)] [(24, cN (ds ++ List.replicate (S - k) 0))])
            (fun j => j ≤ ll.length) (fun j => ll.length - j) 0 ?_ (Nat.zero_le _) ?_
          · refine gstep_list rfl ?_ ?_ rfl ?_ <;> simp only [go_sem, cellsL_refs] <;> simp [col]
          · intro j hj
            simp only [go_sem]
            have hcol := col_le (ll := ll.take j) (k := k) fun a ha => hb a (List.mem_of_mem_take ha)
            rw [List.length_take, Nat.min_eq_left hj] at hcol
            refine CondR_if (fun hjl => ?_) (fun hjl => ?_)
            · have hjl' : j < ll.length := by omega
              simp only [go_sem, elemD_lt hjl', hjl]
              refine ⟨by omega, CondR_if (fun hka => ?_) (fun hka => ?_)⟩
              · have hka' : k < ll[j].length := by omega
                have hx := hb _ (List.getElem_mem hjl') _ (List.getElem_mem hka')
                simp only [BB] at hx
                ((try simp only [go_sem, elemD_lt hka', hka]); (try simp (disch := omega) only [wrap_i64, wrap_u64, wrap_u32, elemD_lt, elemD_lt hka', hka]); (try simp only [go_sem, elemD_lt hka', hka]); (try simp (disch := omega) only [wrap_i64, wrap_u64, wrap_u32, elemD_lt, elemD_lt hka', hka]); (try simp only [go_sem, elemD_lt hka', hka]))
                refine ⟨by omega, j + 1, hjl', (by show ll.length - (j + 1) < ll.length - j; omega), ?_⟩
                have e : ((c + col (ll.take (j + 1)) k : Nat) : Int) = ((c + col (ll.take j) k : Nat) : Int) + (ll[j][k] : Int) := by
                  rw [take_snoc hjl', col_snoc]; simp [hka']; omega
                refine gstep_list rfl ?_ ?_ rfl ?_ <;> ((try simp only [go_sem, cellsL_refs, e]); (try simp (disch := omega) only [wrap_i64, wrap_u64, wrap_u32, elemD_lt, cellsL_refs, e]); (try simp only [go_sem, cellsL_refs, e]); (try simp (disch := omega) only [wrap_i64, wrap_u64, wrap_u32, elemD_lt, cellsL_refs, e]); (try simp only [go_sem, cellsL_refs, e])) <;> simp
              · simp only [go_sem]
                refine ⟨j + 1, hjl', (by show ll.length - (j + 1) < ll.length - j; omega), ?_⟩
                have e : (c + col (ll.take (j + 1)) k) = (c + col (ll.take j) k) := by
                  rw [take_snoc hjl', col_snoc]; simp [show ll[j].length ≤ k by omega]
                refine gstep_list rfl ?_ ?_ rfl ?_ <;> ((try simp only [go_sem, cellsL_refs, e]); (try simp (disch := omega) only [wrap_i64, wrap_u64, wrap_u32, elemD_lt, cellsL_refs, e]); (try simp only [go_sem, cellsL_refs, e]); (try simp (disch := omega) only [wrap_i64, wrap_u64, wrap_u32, elemD_lt, cellsL_refs, e]); (try simp only [go_sem, cellsL_refs, e])) <;> simp
            · obtain rfl : j = ll.length := by omega
              rw [List.take_length] at hcol ⊢
              have hnx := hs.next hb
              have hmod : (c + col ll k) % 1000000000 < 1000000000 := Nat.mod_lt _ (by decide)
              ((try simp only [go_sem, tmodB, tdivB]); (try simp (disch := omega) only [wrap_i64, wrap_u64, wrap_u32, elemD_lt, tmodB, tdivB]); (try simp only [go_sem, tmodB, tdivB]); (try simp (disch := omega) only [wrap_i64, wrap_u64, wrap_u32, elemD_lt, tmodB, tdivB]); (try simp only [go_sem, tmodB, tdivB]))
              have hlS : (ds ++ List.replicate (S - k) 0).length = S := by simp [hs.1]; omega
              refine ⟨⟨by omega, by omega⟩, by rw [cN_len]; omega, ?_⟩
              refine ⟨(k + 1, ds ++ [(c + col ll k) % BB], (c + col ll k) / BB), ⟨hlt', hnx⟩, (by show S - (k + 1) < S - k; omega), ?_⟩
              refine gstep_list rfl ?_ ?_ rfl ?_ <;> simp only [go_sem, cellsL_refs, cN_sd (show k < (ds ++ List.replicate (S - k) 0).length by omega), set_fill hs.1 hlt'] <;> simp [BB]
        · obtain rfl : k = S := by omega
          have hs_done : trimZ ds = dig (ll.map val).sum := by
            rw [← hS] at hs
            exact hs.done hb (fun a ha => msz_ge ha) (by simp only [BB]; omega)
          simp only [go_sem]
          rw [Nat.sub_self, List.replicate_zero, List.append_nil]
          refine call_frz 24 1 k rfl (p_nat_trim ds (by rw [hs.1]; omega)) (by simp only [go_sem] <;> rfl) (by rw [← hs.1]; exact treeOf_L limb_len) ?_ ?_
          · simp only [go_sem, hs.1] <;> rfl
          · simp only [go_sem]
            rw [hs_done]; exact fz_eL

set_option maxRecDepth 100000 in
theorem p_nat_Add (a b : List Nat) (ha : a.length < 10000000000000) (hb : b.length < 10000000000000) : PCall Tryz.prog 145 [tN a, tN b] (tN (dig (vN a + vN b))) := by
  refine pcall_of_wpA mixed Tryz.call145 Tryz.func145 rfl Tryz.ntmps145 Tryz.results145 (by simp) (by decide) ?_
  simp only [go_sem]
  refine call_pure (p_nat_held a (by omega)) rfl ?_
  simp only [go_sem]
  refine call_pure (p_nat_held b (by omega)) rfl ?_
  simp only [go_sem]
  have ha1 := held_length a
  have hb1 := held_length b
  refine call_fz (tvs' := [.one (.seq (some false) [[eN (held a)], [eN (held b)]])]) (p_nat_sum [held a, held b] (by simp) (fun x hx => by rcases List.mem_cons.1 hx with rfl | hx; omega; obtain rfl := List.mem_singleton.1 hx; omega) (fun x hx => by rcases List.mem_cons.1 hx with rfl | hx; exact (IsN_held a).1; obtain rfl := List.mem_singleton.1 hx; exact (IsN_held b).1)) rfl (.cons fzW .nil) ?_
  simp only [go_sem]
  rw [show [val (held a), val (held b)].sum = vN a + vN b by simp [vN]]; exact fz_eL
end Go.Proofs.YtgnfgaioeldagaaGreat
namespace Go.Proofs.YtgnfgaioeldagaaGreat
open Go Go.Abs

def SubI (x y : List Nat) (k : Nat) (ds : List Nat) (c : Nat) : Prop := ds.length = k ∧ (∀ z ∈ ds, z < BB) ∧ c ≤ 1 ∧ val ds + val (y.take k) = val (x.take k) + BB ^ k * c
theorem SubI.step {x y ds : List Nat} {k c d c' : Nat} (hs : SubI x y k ds c) (hd : d < BB) (hc : c' ≤ 1) (h : d + y.getD k 0 + c = x.getD k 0 + BB * c') : SubI x y (k + 1) (ds ++ [d]) c' := by
  obtain ⟨h1, h2, h3, h4⟩ := hs
  refine ⟨by simp [h1], ?_, hc, ?_⟩
  · intro z hz
    rcases List.mem_append.1 hz with hz | hz
    · exact h2 z hz
    · simp at hz; subst hz; exact hd
  · rw [val_append, h1, val_take, val_take]
    simp only [val, Nat.mul_zero, Nat.add_zero]
    have := congrArg (BB ^ k * ·) h
    simp only [Nat.mul_add] at this
    rw [Nat.pow_succ, Nat.mul_assoc]
    omega
theorem SubI.next {x y ds : List Nat} {k c d c' : Nat} (hs : SubI x y k ds c) (hx : ∀ z ∈ x, z < BB) (hy : ∀ z ∈ y, z < BB) (hk : k < x.length) (h : (x[k] < c + y.getD k 0 ∧ d = x[k] + BB - (c + y.getD k 0) ∧ c' = 1) ∨ (c + y.getD k 0 ≤ x[k] ∧ d = x[k] - (c + y.getD k 0) ∧ c' = 0)) : SubI x y (k + 1) (ds ++ [d]) c' := by
  have h1 := hx _ (List.getElem_mem hk)
  have h2 : y.getD k 0 < BB := by
    by_cases h : k < y.length
    · simp [h]; exact hy _ (List.getElem_mem h)
    · simp [show y.length ≤ k by omega, BB]
  have h3 := hs.2.2.1
  have e : x.getD k 0 = x[k] := by simp [hk]
  refine hs.step ?_ ?_ ?_ <;> rw [show BB = 1000000000 from rfl] at * <;> rcases h with ⟨h, rfl, rfl⟩ | ⟨h, rfl, rfl⟩ <;> omega
theorem SubI.done {x y ds : List Nat} {c : Nat} (hs : SubI x y x.length ds c) (hy : y.length ≤ x.length) (h : val y < val x) : trimZ ds = dig (val x - val y) := by
  obtain ⟨h1, h2, h3, h4⟩ := hs
  rw [List.take_of_length_le hy, List.take_length] at h4
  have h5 := val_lt h2
  rw [h1] at h5
  have : c = 0 := by
    rcases Nat.eq_zero_or_pos c with h | h
    · exact h
    · obtain rfl : c = 1 := by omega
      omega
  subst this
  rw [trimZ_lt h2]; congr 1; omega

set_option maxRecDepth 100000 in
theorem p_nat_Sub (a b : List Nat) (ha : a.length < 10000000000000) (hb : b.length < 10000000000000) : PCall Tryz.prog 146 [tN a, tN b] (tN (dig (vN a - vN b))) := by
  refine pcall_of_wpA mixed Tryz.call146 Tryz.func146 rfl Tryz.ntmps146 Tryz.results146 (by simp) (by decide) ?_
  simp only [go_sem]
  refine call_pure (p_nat_held a (by omega)) rfl ?_
  simp only [go_sem]
  refine call_pure (p_nat_held b (by omega)) rfl ?_
  simp only [go_sem]
  have hxa := held_length a
  have hyb := held_length b
  have hX := IsN_held a
  have hY := IsN_held b
  refine call_pure (p_nat_Cmp (held a) (held b) (by omega) (by omega)) rfl ?_
  rw [show vN (held a) = vN a by rw [← dig_vN, vN_dig], show vN (held b) = vN b by rw [← dig_vN, vN_dig]]
  simp only [go_sem]
  refine CondR_if (fun hle => ?_) (fun hgt => ?_)
  · simp only [go_sem]
    have : vN a ≤ vN b := by
      unfold cmpI at hle; split at hle
      · omega
      · split at hle <;> omega
    rw [show vN a - vN b = 0 by omega, dig_zero]; exact fz_nil
  · have hlt : vN b < vN a := by
      unfold cmpI at hgt; split at hgt
      · omega
      · split at hgt <;> omega
    unfold vN at hlt ⊢
    generalize held a = x at *
    generalize held b = y at *
    have hyx : y.length ≤ x.length := by
      rcases Nat.lt_or_ge x.length y.length with h | h
      · have := val_lt_len hX hY h; omega
      · exact h
    have hx := hX.1
    have hy := hY.1
    ((try simp only [go_sem]); (try simp (disch := omega) only [wrap_i64, wrap_u64, wrap_u32, elemD_lt]); (try simp only [go_sem]); (try simp (disch := omega) only [wrap_i64, wrap_u64, wrap_u32, elemD_lt]); (try simp only [go_sem]))
    refine ⟨by omega, ?_⟩
    refine loop_inv (fun p : Nat × List Nat × Nat => stL 53 [(0, aN x), (1, aN y), (5, .one (.vec 20 1 0 x.length)), (6, litI .u32 p.2.2), (21, aN x), (22, litI .i64 x.length), (23, litI .i64 p.1)] [(20, cN (p.2.1 ++ List.replicate (x.length - p.1) 0))])
      (fun p => p.1 ≤ x.length ∧ SubI x y p.1 p.2.1 p.2.2) (fun p => x.length - p.1) (0, [], 0) ?_ ⟨Nat.zero_le _, rfl, by simp, Nat.zero_le _, by simp [val]⟩ ?_
    · refine gstep_list rfl ?_ ?_ rfl ?_ <;> simp only [go_sem, cellsL_refs, cN_repl] <;> simp
    · rintro ⟨k, ds, c⟩ ⟨hk, hs⟩
      simp only at hk hs ⊢
      simp only [go_sem]
      refine CondR_if (fun hlt => ?_) (fun hge => ?_)
      · have hlt' : k < x.length := by omega
        have hxl := hlt'
        have hc := hs.2.2.1
        have hlS : (ds ++ List.replicate (x.length - k) 0).length = x.length := by simp [hs.1]; omega
        have h1 := hx _ (List.getElem_mem hlt')
        simp only [BB] at h1
        simp only [go_sem, elemD_lt hlt', hlt]
        refine ⟨by omega, CondR_if (fun hky => ?_) (fun hky => ?_)⟩
        · have hky' : k < y.length := by omega
          have h2 := hy _ (List.getElem_mem hky')
          simp only [BB] at h2
          have e : y.getD k 0 = y[k] := by simp [hky']
          ((try simp only [go_sem, elemD_lt hky', hky]); (try simp (disch := omega) only [wrap_i64, wrap_u64, wrap_u32, elemD_lt, elemD_lt hky', hky]); (try simp only [go_sem, elemD_lt hky', hky]); (try simp (disch := omega) only [wrap_i64, wrap_u64, wrap_u32, elemD_lt, elemD_lt hky', hky]); (try simp only [go_sem, elemD_lt hky', hky]))
          refine ⟨by omega, CondR_if (fun hb => ?_) (fun hb => ?_)⟩
          · ((try simp only [go_sem, show ((x[k] : Int) + 1000000000 - ((c : Int) + (y[k] : Int))) = ((x[k] + 1000000000 - (c + y[k]) : Nat) : Int) by omega]); (try simp (disch := omega) only [wrap_i64, wrap_u64, wrap_u32, elemD_lt, show ((x[k] : Int) + 1000000000 - ((c : Int) + (y[k] : Int))) = ((x[k] + 1000000000 - (c + y[k]) : Nat) : Int) by omega]); (try simp only [go_sem, show ((x[k] : Int) + 1000000000 - ((c : Int) + (y[k] : Int))) = ((x[k] + 1000000000 - (c + y[k]) : Nat) : Int) by omega]); (try simp (disch := omega) only [wrap_i64, wrap_u64, wrap_u32, elemD_lt, show ((x[k] : Int) + 1000000000 - ((c : Int) + (y[k] : Int))) = ((x[k] + 1000000000 - (c + y[k]) : Nat) : Int) by omega]); (try simp only [go_sem, show ((x[k] : Int) + 1000000000 - ((c : Int) + (y[k] : Int))) = ((x[k] + 1000000000 - (c + y[k]) : Nat) : Int) by omega]))
            refine ⟨⟨by omega, by omega⟩, by rw [cN_len]; omega, ?_⟩
            refine ⟨(k + 1, ds ++ [x[k] + 1000000000 - (c + y[k])], 1), ⟨hlt', hs.next hx hy hxl (.inl ⟨by omega, by simp only [BB]; omega, rfl⟩)⟩, (by show x.length - (k + 1) < x.length - k; omega), ?_⟩
            refine gstep_list rfl ?_ ?_ rfl ?_ <;> simp only [go_sem, cellsL_refs, cN_sd (show k < (ds ++ List.replicate (x.length - k) 0).length by omega), set_fill hs.1 hlt'] <;> simp
          · ((try simp only [go_sem, show ((x[k] : Int) - ((c : Int) + (y[k] : Int))) = ((x[k] - (c + y[k]) : Nat) : Int) by omega]); (try simp (disch := omega) only [wrap_i64, wrap_u64, wrap_u32, elemD_lt, show ((x[k] : Int) - ((c : Int) + (y[k] : Int))) = ((x[k] - (c + y[k]) : Nat) : Int) by omega]); (try simp only [go_sem, show ((x[k] : Int) - ((c : Int) + (y[k] : Int))) = ((x[k] - (c + y[k]) : Nat) : Int) by omega]); (try simp (disch := omega) only [wrap_i64, wrap_u64, wrap_u32, elemD_lt, show ((x[k] : Int) - ((c : Int) + (y[k] : Int))) = ((x[k] - (c + y[k]) : Nat) : Int) by omega]); (try simp only [go_sem, show ((x[k] : Int) - ((c : Int) + (y[k] : Int))) = ((x[k] - (c + y[k]) : Nat) : Int) by omega]))
            refine ⟨⟨by omega, by omega⟩, by rw [cN_len]; omega, ?_⟩
            refine ⟨(k + 1, ds ++ [x[k] - (c + y[k])], 0), ⟨hlt', hs.next hx hy hxl (.inr ⟨by omega, by omega, rfl⟩)⟩, (by show x.length - (k + 1) < x.length - k; omega), ?_⟩
            refine gstep_list rfl ?_ ?_ rfl ?_ <;> simp only [go_sem, cellsL_refs, cN_sd (show k < (ds ++ List.replicate (x.length - k) 0).length by omega), set_fill hs.1 hlt'] <;> simp
        · have e : y.getD k 0 = 0 := by simp [show y.length ≤ k by omega]
          ((try simp only [go_sem]); (try simp (disch := omega) only [wrap_i64, wrap_u64, wrap_u32, elemD_lt]); (try simp only [go_sem]); (try simp (disch := omega) only [wrap_i64, wrap_u64, wrap_u32, elemD_lt]); (try simp only [go_sem]))
          refine CondR_if (fun hb => ?_) (fun hb => ?_)
          · ((try simp only [go_sem, show ((x[k] : Int) + 1000000000 - (c : Int)) = ((x[k] + 1000000000 - c : Nat) : Int) by omega]); (try simp (disch := omega) only [wrap_i64, wrap_u64, wrap_u32, elemD_lt, show ((x[k] : Int) + 1000000000 - (c : Int)) = ((x[k] + 1000000000 - c : Nat) : Int) by omega]); (try simp only [go_sem, show ((x[k] : Int) + 1000000000 - (c : Int)) = ((x[k] + 1000000000 - c : Nat) : Int) by omega]); (try simp (disch := omega) only [wrap_i64, wrap_u64, wrap_u32, elemD_lt, show ((x[k] : Int) + 1000000000 - (c : Int)) = ((x[k] + 1000000000 - c : Nat) : Int) by omega]); (try simp only [go_sem, show ((x[k] : Int) + 1000000000 - (c : Int)) = ((x[k] + 1000000000 - c : Nat) : Int) by omega]))
            refine ⟨⟨by omega, by omega⟩, by rw [cN_len]; omega, ?_⟩
            refine ⟨(k + 1, ds ++ [x[k] + 1000000000 - c], 1), ⟨hlt', hs.next hx hy hxl (.inl ⟨by omega, by simp only [BB]; omega, rfl⟩)⟩, (by show x.length - (k + 1) < x.length - k; omega), ?_⟩
            refine gstep_list rfl ?_ ?_ rfl ?_ <;> simp only [go_sem, cellsL_refs, cN_sd (show k < (ds ++ List.replicate (x.length - k) 0).length by omega), set_fill hs.1 hlt'] <;> simp
          · ((try simp only [go_sem, show ((x[k] : Int) - (c : Int)) = ((x[k] - c : Nat) : Int) by omega]); (try simp (disch := omega) only [wrap_i64, wrap_u64, wrap_u32, elemD_lt, show ((x[k] : Int) - (c : Int)) = ((x[k] - c : Nat) : Int) by omega]); (try simp only [go_sem, show ((x[k] : Int) - (c : Int)) = ((x[k] - c : Nat) : Int) by omega]); (try simp (disch := omega) only [wrap_i64, wrap_u64, wrap_u32, elemD_lt, show ((x[k] : Int) - (c : Int)) = ((x[k] - c : Nat) : Int) by omega]); (try simp only [go_sem, show ((x[k] : Int) - (c : Int)) = ((x[k] - c : Nat) : Int) by omega]))
            refine ⟨⟨by omega, by omega⟩, by rw [cN_len]; omega, ?_⟩
            refine ⟨(k + 1, ds ++ [x[k] - c], 0), ⟨hlt', hs.next hx hy hxl (.inr ⟨by omega, by omega, rfl⟩)⟩, (by show x.length - (k + 1) < x.length - k; omega), ?_⟩
            refine gstep_list rfl ?_ ?_ rfl ?_ <;> simp only [go_sem, cellsL_refs, cN_sd (show k < (ds ++ List.replicate (x.length - k) 0).length by omega), set_fill hs.1 hlt'] <;> simp
      · obtain rfl : k = x.length := by omega
        have hdn := hs.done hyx hlt
        have hdl := hs.1
        simp only [go_sem]
        rw [Nat.sub_self, List.replicate_zero, List.append_nil]
        refine call_frz 20 1 x.length rfl (p_nat_trim ds (by omega)) (by simp only [go_sem] <;> rfl) (by rw [← hdl]; exact treeOf_L limb_len) ?_ ?_
        · simp only [go_sem, hdl] <;> rfl
        · simp only [go_sem]
          rw [hdn]; exact fz_eL
end Go.Proofs.YtgnfgaioeldagaaGreat
namespace Go.Proofs.YtgnfgaioeldagaaGreat
open Go Go.Abs

theorem val_set {xs : List Nat} {i v : Nat} (hi : i < xs.length) : val (xs.set i v) + BB ^ i * xs[i] = val xs + BB ^ i * v := by
  have h1 := val_split hi
  have h2 := val_split (xs := xs.set i v) (i := i) (by simpa using hi)
  rw [List.getElem_set_self, List.take_set_of_le (Nat.le_refl _), List.drop_set_of_lt (by omega)] at h2
  rw [h1, h2, Nat.mul_add, Nat.mul_add]; omega
theorem set_lt {xs : List Nat} {i v : Nat} (h : ∀ x ∈ xs, x < BB) (hv : v < BB) : ∀ x ∈ xs.set i v, x < BB := fun x hx => by
  rcases List.mem_or_eq_of_mem_set hx with h1 | rfl
  · exact h x h1
  · exact hv
theorem getD_set {xs : List Nat} {i v k : Nat} (hi : i < xs.length) : (xs.set i v).getD k 0 = if k = i then v else xs.getD k 0 := by
  by_cases h : k = i
  · subst h; simp [hi]
  · rw [if_neg h]; simp [Ne.symm h]

def MulO (x y : List Nat) (i : Nat) (w : List Nat) : Prop := w.length = x.length + y.length ∧ (∀ z ∈ w, z < BB) ∧ (∀ k, i + y.length ≤ k → w.getD k 0 = 0) ∧ val w = val (x.take i) * val y
def MulI (x y : List Nat) (i n j : Nat) (w : List Nat) (c : Nat) : Prop := w.length = x.length + y.length ∧ (∀ z ∈ w, z < BB) ∧ c < BB ∧ (∀ k, i + y.length ≤ k → w.getD k 0 = 0) ∧ val w + BB ^ (i + j) * c = val (x.take i) * val y + BB ^ i * (n * val (y.take j))
theorem MulO.enter {x y w : List Nat} {i n : Nat} (h : MulO x y i w) : MulI x y i n 0 w 0 := ⟨h.1, h.2.1, by decide, h.2.2.1, by rw [h.2.2.2]; simp [val]⟩
theorem MulI.next {x y w : List Nat} {i n j c t : Nat} (h : MulI x y i n j w c) (hj : j < y.length) (hw : i + j < w.length) (hn : n < BB) (hy : y[j] < BB) (ht : t = c + (w[i + j] + n * y[j])) : MulI x y i n (j + 1) (w.set (i + j) (t % BB)) (t / BB) := by
  obtain ⟨h1, h2, h3, h4, h5⟩ := h
  have hB : BB = 1000000000 := rfl
  refine ⟨by simpa using h1, set_lt h2 (Nat.mod_lt _ (by decide)), ?_, fun k hk => ?_, ?_⟩
  · have h6 := h2 _ (List.getElem_mem hw)
    have h7 : n * y[j] ≤ 999999999 * 999999999 := Nat.mul_le_mul (by omega) (by omega)
    simp only [BB] at h3 h6 ⊢; omega
  · rw [getD_set hw, if_neg (by omega)]; exact h4 k hk
  · have e := val_set (v := t % BB) hw
    rw [take_snoc hj, val_append, List.length_take, Nat.min_eq_left (by omega), ← Nat.add_assoc, Nat.pow_succ, Nat.mul_assoc]
    have e2 := Nat.mod_add_div t BB
    have e3 := congrArg (BB ^ (i + j) * ·) e2
    simp only [ht, Nat.mul_add] at e3
    rw [← ht] at e3
    simp only [val, Nat.mul_zero, Nat.add_zero, Nat.mul_add]
    have e4 : BB ^ i * (n * (BB ^ j * y[j])) = BB ^ (i + j) * (n * y[j]) := by
      rw [Nat.pow_add, Nat.mul_assoc]; congr 1; rw [← Nat.mul_assoc, ← Nat.mul_assoc, Nat.mul_comm n]
    rw [e4]; omega
theorem MulI.done {x y w : List Nat} {i c : Nat} (hi : i < x.length) (h : MulI x y i x[i] y.length w c) : MulO x y (i + 1) (w.set (i + y.length) c) := by
  obtain ⟨h1, h2, h3, h4, h5⟩ := h
  have hw : i + y.length < w.length := by omega
  refine ⟨by simpa using h1, set_lt h2 h3, fun k hk => ?_, ?_⟩
  · rw [getD_set hw, if_neg (by omega)]; exact h4 k (by omega)
  · have e := val_set (v := c) hw
    have e0 : w[i + y.length] = 0 := by have := h4 (i + y.length) (Nat.le_refl _); simpa [hw] using this
    rw [e0, Nat.mul_zero, Nat.add_zero, h5, List.take_length] at e
    rw [e, take_snoc hi, val_append, List.length_take, Nat.min_eq_left (by omega)]
    simp only [val, Nat.mul_zero, Nat.add_zero, Nat.add_mul, Nat.mul_assoc]

set_option maxRecDepth 100000 in
theorem p_nat_Mul (a b : List Nat) (ha : a.length < 10000000000000) (hb : b.length < 10000000000000) : PCall Tryz.prog 147 [tN a, tN b] (tN (dig (vN a * vN b))) := by
  refine pcall_of_wpA mixed Tryz.call147 Tryz.func147 rfl Tryz.ntmps147 Tryz.results147 (by simp) (by decide) ?_
  simp only [go_sem]
  refine call_pure (p_nat_held a (by omega)) rfl ?_
  simp only [go_sem]
  refine call_pure (p_nat_held b (by omega)) rfl ?_
  have hxa := held_length a
  have hyb := held_length b
  have hX := IsN_held a
  have hY := IsN_held b
  unfold vN
  generalize held a = x at *
  generalize held b = y at *
  have hx := hX.1
  have hy := hY.1
  by_cases hx0 : x = []
  · subst hx0
    simp only [go_sem]
    rw [show val [] * val y = 0 from Nat.zero_mul _, dig_zero]; exact fz_nil
  have hlx : 0 < x.length := List.length_pos_iff.2 hx0
  have hx1 : ¬ ((x.length : Int) = 0) := by omega
  by_cases hy0 : y = []
  · subst hy0
    simp only [go_sem, hx1]
    rw [show val x * val [] = 0 from Nat.mul_zero _, dig_zero]; exact fz_nil
  have hly : 0 < y.length := List.length_pos_iff.2 hy0
  have hy1 : ¬ ((y.length : Int) = 0) := by omega
  ((try simp only [go_sem, hx1, hy1]); (try simp (disch := omega) only [wrap_i64, wrap_u64, wrap_u32, elemD_lt, hx1, hy1]); (try simp only [go_sem, hx1, hy1]); (try simp (disch := omega) only [wrap_i64, wrap_u64, wrap_u32, elemD_lt, hx1, hy1]); (try simp only [go_sem, hx1, hy1]))
  refine ⟨by omega, ?_⟩
  have hS' : (x.length : Int) + (y.length : Int) = ((x.length + y.length : Nat) : Int) := by omega
  have hwS : IntKind.wrap .i64 ((x.length + y.length : Nat) : Int) = ((x.length + y.length : Nat) : Int) := wrap_i64 (by omega) (by omega)
  refine loop_inv (fun p : Nat × List Nat => stL 80 [(0, aN x), (1, aN y), (5, .one (.vec 28 1 0 (x.length + y.length))), (29, aN x), (30, litI .i64 x.length), (31, litI .i64 p.1)] [(28, cN p.2)])
    (fun p => p.1 ≤ x.length ∧ MulO x y p.1 p.2) (fun p => x.length - p.1) (0, List.replicate (x.length + y.length) 0) ?_ ⟨Nat.zero_le _, by simp, (fun z hz => by rw [List.eq_of_mem_replicate hz]; decide), (fun k _ => by simp [List.getD_eq_getElem?_getD, List.getElem?_replicate]; split <;> rfl), by rw [val_replicate]; simp [val]⟩ ?_
  · refine gstep_list rfl ?_ ?_ rfl ?_ <;> simp only [go_sem, hS', hwS, cellsL_refs, cN_repl] <;> simp
  · rintro ⟨i, w⟩ ⟨hi, hs⟩
    simp only at hi hs ⊢
    simp only [go_sem]
    refine CondR_if (fun hlt => ?_) (fun hge => ?_)
    · have hlt' : i < x.length := by omega
      have hxi := hx _ (List.getElem_mem hlt')
      have hxi' := hxi
      simp only [BB] at hxi'
      simp only [go_sem, elemD_lt hlt', hlt]
      refine ⟨by omega, ?_⟩
      refine loop_inv (fun p : Nat × List Nat × Nat => stL 80 [(0, aN x), (1, aN y), (5, .one (.vec 28 1 0 (x.length + y.length))), (6, litI .i64 i), (7, litI .u32 x[i]), (8, litI .u64 p.2.2), (29, aN x), (30, litI .i64 x.length), (31, litI .i64 i), (36, aN y), (37, litI .i64 y.length), (38, litI .i64 p.1)] [(28, cN p.2.1)])
        (fun p => p.1 ≤ y.length ∧ MulI x y i x[i] p.1 p.2.1 p.2.2) (fun p => y.length - p.1) (0, w, 0) ?_ ⟨Nat.zero_le _, hs.enter⟩ ?_
      · refine gstep_list rfl ?_ ?_ rfl ?_ <;> simp only [go_sem, cellsL_refs] <;> simp
      · rintro ⟨j, w, c⟩ ⟨hj, hs⟩
        simp only at hj hs ⊢
        simp only [go_sem]
        refine CondR_if (fun hjl => ?_) (fun hjl => ?_)
        · have hjl' : j < y.length := by omega
          have hyj := hy _ (List.getElem_mem hjl')
          have hyj' := hyj
          simp only [BB] at hyj'
          have hw : i + j < w.length := by have := hs.1; omega
          have hwj := hs.2.1 _ (List.getElem_mem hw)
          have hc := hs.2.2.1
          simp only [BB] at hwj hc
          have hprod : x[i] * y[j] ≤ 999999999 * 999999999 := Nat.mul_le_mul (by omega) (by omega)
          have hnx := hs.next hjl' hw hxi hyj rfl
          have eij : (i : Int) + (j : Int) = ((i + j : Nat) : Int) := by omega
          have et : ((c : Int) + ((w[i + j] : Int) + (x[i] : Int) * (y[j] : Int))) = ((c + (w[i + j] + x[i] * y[j]) : Nat) : Int) := by omega
          have hmod : (c + (w[i + j] + x[i] * y[j])) % 1000000000 < 1000000000 := Nat.mod_lt _ (by decide)
          generalize hT : c + (w[i + j] + x[i] * y[j]) = t at *
          ((try simp only [go_sem, elemD_lt hjl', hjl, eij, cN_at hw, et, tmodB, tdivB]); (try simp (disch := omega) only [wrap_i64, wrap_u64, wrap_u32, elemD_lt, elemD_lt hjl', hjl, eij, cN_at hw, et, tmodB, tdivB]); (try simp only [go_sem, elemD_lt hjl', hjl, eij, cN_at hw, et, tmodB, tdivB]); (try simp (disch := omega) only [wrap_i64, wrap_u64, wrap_u32, elemD_lt, elemD_lt hjl', hjl, eij, cN_at hw, et, tmodB, tdivB]); (try simp only [go_sem, elemD_lt hjl', hjl, eij, cN_at hw, et, tmodB, tdivB]))
          have hwl := hs.1
          refine ⟨by omega, ⟨by omega, by omega⟩, ⟨by omega, by omega⟩, by rw [cN_len]; omega, ?_⟩
          refine ⟨(j + 1, w.set (i + j) (t % BB), t / BB), ⟨hjl', hnx⟩, (by show y.length - (j + 1) < y.length - j; omega), ?_⟩
          refine gstep_list rfl ?_ ?_ rfl ?_ <;> simp only [go_sem, cellsL_refs, cN_sd hw, BB] <;> simp
        · obtain rfl : j = y.length := by omega
          have hwl := hs.1
          have hc := hs.2.2.1
          simp only [BB] at hc
          have hw : i + y.length < w.length := by omega
          have hnx := hs.done hlt'
          have eij : (i : Int) + (y.length : Int) = ((i + y.length : Nat) : Int) := by omega
          ((try simp only [go_sem, eij]); (try simp (disch := omega) only [wrap_i64, wrap_u64, wrap_u32, elemD_lt, eij]); (try simp only [go_sem, eij]); (try simp (disch := omega) only [wrap_i64, wrap_u64, wrap_u32, elemD_lt, eij]); (try simp only [go_sem, eij]))
          refine ⟨⟨by omega, by omega⟩, by rw [cN_len]; omega, ?_⟩
          refine ⟨(i + 1, w.set (i + y.length) c), ⟨hlt', hnx⟩, (by show x.length - (i + 1) < x.length - i; omega), ?_⟩
          refine gstep_list rfl ?_ ?_ rfl ?_ <;> simp only [go_sem, cellsL_refs, cN_sd hw] <;> simp
    · obtain rfl : i = x.length := by omega
      obtain ⟨h1, h2, h3, h4⟩ := hs
      rw [List.take_length] at h4
      simp only [go_sem]
      refine call_frz 28 1 (x.length + y.length) rfl (p_nat_trim w (by omega)) (by simp only [go_sem] <;> rfl) (by rw [← h1]; exact treeOf_L limb_len) ?_ ?_
      · simp only [go_sem] <;> rfl
      · simp only [go_sem]
        rw [← h4, trimZ_lt h2]; exact fz_eL
end Go.Proofs.YtgnfgaioeldagaaGreat
