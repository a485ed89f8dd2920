/- At every input the call answers true and leaves its arguments as they were; no conditions. -/
import Derived.Test.YtgnfgaioeldagaaGreatNa
set_option linter.unusedSimpArgs false
set_option linter.unusedVariables false
namespace Go.Proofs.YtgnfgaioeldagaaGreat
open Go Go.Abs

def ByI (x : List Nat) (n k : Nat) (qs : List Nat) (l : Nat) : Prop := k + qs.length = x.length ∧ (∀ z ∈ qs, z < BB) ∧ l < n ∧ val qs * n + l = val (x.drop k)
theorem ByI.next {x qs : List Nat} {n i l : Nat} (h : ByI x n (i + 1) qs l) (hn : n < BB) (hi : i < x.length) (hx : x[i] < BB) : ByI x n i ((l * BB + x[i]) / n :: qs) ((l * BB + x[i]) % n) := by
  obtain ⟨h1, h2, h3, h4⟩ := h
  have hn0 : 0 < n := by omega
  refine ⟨by simp; omega, fun z hz => ?_, Nat.mod_lt _ hn0, ?_⟩
  · rcases List.mem_cons.1 hz with rfl | hz
    · rw [Nat.div_lt_iff_lt_mul hn0]
      have : (l + 1) * BB ≤ n * BB := Nat.mul_le_mul_right _ h3
      rw [Nat.add_mul, Nat.mul_comm n] at this; omega
    · exact h2 z hz
  · rw [List.drop_eq_getElem_cons hi]
    simp only [val]
    rw [← h4, Nat.add_mul, Nat.add_right_comm, Nat.mul_comm _ n, Nat.div_add_mod, Nat.mul_add, Nat.mul_comm l, ← Nat.mul_assoc]; omega
theorem ByI.done {x qs : List Nat} {n l : Nat} (h : ByI x n 0 qs l) : trimZ qs = dig (val x / n) ∧ l = val x % n := by
  obtain ⟨h1, h2, h3, h4⟩ := h
  rw [List.drop_zero] at h4
  rw [trimZ_lt h2]
  have hn0 : 0 < n := by omega
  refine ⟨?_, ?_⟩
  · rw [← h4, Nat.mul_comm, Nat.mul_add_div hn0, Nat.div_eq_of_lt h3, Nat.add_zero]
  · rw [← h4, Nat.mul_comm, Nat.mul_add_mod, Nat.mod_eq_of_lt h3]
theorem set_down {k y : Nat} {qs : List Nat} : (List.replicate (k + 1) 0 ++ qs).set k y = List.replicate k 0 ++ y :: qs := by
  rw [List.replicate_succ', List.append_assoc, List.set_append, if_neg (by simp)]; simp

set_option maxRecDepth 100000 in
theorem p_nat_by (x : List Nat) (n : Nat) (hl : x.length < 30000000000000) (hx : ∀ z ∈ x, z < BB) (hn0 : 0 < n) (hn : n < BB) : PCall Tryz.prog 172 [tN x, tI .u32 n] (.tup [tN (dig (val x / n)), tI .u32 (val x % n : Nat)]) := by
  refine pcall_of_wpA mixed Tryz.call172 Tryz.func172 rfl Tryz.ntmps172 Tryz.results172 (by simp) (by decide) ?_
  have hn' := hn
  simp only [BB] at hn'
  ((try simp only [go_sem]); (try simp (disch := omega) only [wrap_i64, wrap_u64, wrap_u32, elemD_lt]); (try simp only [go_sem]); (try simp (disch := omega) only [wrap_i64, wrap_u64, wrap_u32, elemD_lt]); (try simp only [go_sem]))
  refine ⟨by omega, ?_⟩
  refine loop_inv (fun p : Nat × List Nat × Nat => stL 43 [(0, aN x), (1, litI .u32 n), (6, .one (.vec 11 1 0 x.length)), (7, litI .u64 p.2.2), (8, litI .i64 ((p.1 : Int) - 1))] [(11, cN (List.replicate p.1 0 ++ p.2.1))])
    (fun p => ByI x n p.1 p.2.1 p.2.2) (fun p => p.1) (x.length, [], 0) ?_ ⟨by simp, by simp, hn0, by simp [val]⟩ ?_
  · refine gstep_list rfl ?_ ?_ rfl ?_ <;> simp only [go_sem, cellsL_refs, cN_repl, List.append_nil] <;> simp
  · rintro ⟨k, qs, l⟩ hs
    simp only at hs ⊢
    have hsl := hs.1
    simp only [go_sem]
    refine CondR_if (fun hlt => ?_) (fun hge => ?_)
    · obtain ⟨i, rfl⟩ : ∃ i, k = i + 1 := ⟨k - 1, by omega⟩
      have e : ((i + 1 : Nat) : Int) - 1 = i := by omega
      have e' : ((i : Int) + 1 - 1) = i := by omega
      have hi : i < x.length := by omega
      have hxi := hx _ (List.getElem_mem hi)
      have hnx := hs.next hn hi hxi
      have hl3 := hs.2.2.1
      simp only [BB] at hxi hnx
      have hw : i < (List.replicate (i + 1) 0 ++ qs).length := by simp; omega
      have hwl : (List.replicate (i + 1) 0 ++ qs).length = x.length := by simp; omega
      have et : (l : Int) * 1000000000 + (x[i] : Int) = ((l * 1000000000 + x[i] : Nat) : Int) := by omega
      have hq := hnx.2.1 _ (List.mem_cons_self ..)
      have hr := hnx.2.2.1
      simp only [BB] at hq
      generalize hT : l * 1000000000 + x[i] = t at *
      have eq1 : Int.tdiv (t : Int) (n : Int) = ((t / n : Nat) : Int) := tdivN
      have er1 : Int.tmod (t : Int) (n : Int) = ((t % n : Nat) : Int) := tmodN
      generalize t / n = q at *
      generalize t % n = r at *
      ((try simp only [go_sem, elemD_lt hi, e, e', et, eq1, er1]); (try simp (disch := omega) only [wrap_i64, wrap_u64, wrap_u32, elemD_lt, elemD_lt hi, e, e', et, eq1, er1]); (try simp only [go_sem, elemD_lt hi, e, e', et, eq1, er1]); (try simp (disch := omega) only [wrap_i64, wrap_u64, wrap_u32, elemD_lt, elemD_lt hi, e, e', et, eq1, er1]); (try simp only [go_sem, elemD_lt hi, e, e', et, eq1, er1]))
      refine ⟨⟨by omega, by omega⟩, fun _ => by omega, ⟨by omega, by omega⟩, by rw [cN_len]; omega, fun _ => by omega, ?_⟩
      refine ⟨(i, q :: qs, r), hnx, Nat.lt_succ_self i, ?_⟩
      refine gstep_list rfl ?_ ?_ rfl ?_ <;> simp only [go_sem, e, cellsL_refs, cN_sd hw, set_down] <;> simp
    · obtain rfl : k = 0 := by omega
      have hdn := hs.done
      have hl3 := hs.2.2.1
      have hsl' : qs.length = x.length := by omega
      rw [List.replicate_zero, List.nil_append]
      simp only [go_sem]
      refine call_frz 11 1 x.length rfl (p_nat_trim qs (by omega)) (by simp only [go_sem] <;> rfl) (by rw [← hsl']; exact treeOf_L limb_len) ?_ ?_
      · simp only [go_sem, hsl'] <;> rfl
      · ((try simp only [go_sem]); (try simp (disch := omega) only [wrap_i64, wrap_u64, wrap_u32, elemD_lt]); (try simp only [go_sem]); (try simp (disch := omega) only [wrap_i64, wrap_u64, wrap_u32, elemD_lt]); (try simp only [go_sem]))
        rw [hdn.1, hdn.2]
        exact fz_emb (.tup [tN (dig (val x / n)), tI .u32 (val x % n : Nat)])

set_option maxRecDepth 100000 in
theorem p_Clone (xs : List Nat) (hl : xs.length < 10000000000000) : PCall Tryz.prog 162 [tN xs] (tN xs) := by
  refine PCall.nil1 (fun h => ?_) ?_
  · obtain rfl : xs = [] := by simpa using h
    refine pcall_of_wpA mixed Tryz.call162 Tryz.func162 rfl Tryz.ntmps162 Tryz.results162 (by simp) (by decide) ?_
    simp only [go_sem]
    exact fz_nil
  · refine pcall_of_wpA mixed Tryz.call162 Tryz.func162 rfl Tryz.ntmps162 Tryz.results162 (by simp) (by decide) ?_
    simp only [go_sem]
    refine opA_build0 5 1 rfl (Nat.le_refl _) (by simp only [go_sem] <;> decide) (by simp only [go_sem]) (by decide) ?_
    simp only [go_sem]
    refine opA_app_vec (Nat.le_refl _) (sz := 1) (bytes := 4) (by simp only [go_sem, AppTy] <;> decide) limb_len [] xs (by simp only [go_sem] <;> rfl) rfl (by simp only [go_sem] <;> rfl) (by simp only [go_sem] <;> rfl) rfl (by simp; omega) (by decide) ?_
    simp only [go_sem]
    exact fz_vecA limb_len (by simp only [go_sem]) rfl
end Go.Proofs.YtgnfgaioeldagaaGreat
namespace Go.Proofs.YtgnfgaioeldagaaGreat
open Go Go.Abs
theorem trimZ_take : ∀ {xs : List Nat}, ∃ l, xs = trimZ xs ++ l := by
  intro xs
  generalize h : xs.length = n
  induction n generalizing xs with
  | zero => obtain rfl := List.length_eq_zero_iff.1 h; exact ⟨[], rfl⟩
  | succ n ih =>
    rcases List.eq_nil_or_concat xs with rfl | ⟨l, x, rfl⟩
    · simp at h
    · simp only [List.concat_eq_append] at *
      by_cases hx : x = 0
      · subst hx
        rw [trimZ_snoc]
        obtain ⟨l2, h2⟩ := ih (xs := l) (by simpa using h)
        refine ⟨l2 ++ [0], ?_⟩
        rw [← List.append_assoc, ← h2]
      · rw [trimZ_last (by simp [hx])]; exact ⟨[], by simp⟩

set_option maxRecDepth 100000 in
theorem m_nat_trim (xs : List Nat) (hl : xs.length < 30000000000000) : MCall Tryz.prog 165 [.one (.vec PIN 1 0 xs.length)] (single PIN (cN xs)) (.one (.vec PIN 1 0 (trimZ xs).length)) (single PIN (cN xs)) := by
  refine mcall_of_wpAG mixed Tryz.call165 Tryz.func165 rfl Tryz.ntmps165 Tryz.results165 (by simp) (by decide) ?_ ?_ ?_
  · exact backs_vec
  · exact cN_tree
  simp only [go_sem]
  refine loop_inv (fun k : Nat => stL 21 [(0, .one (.vec PIN 1 0 k))] [(PIN, cN xs)]) (fun k => k ≤ xs.length ∧ trimZ (xs.take k) = trimZ xs) (fun k => k) xs.length ?_ ⟨Nat.le_refl _, by rw [List.take_length]⟩ ?_
  · refine gstep_list rfl ?_ ?_ rfl ?_ <;> simp only [go_sem, cellsL_refs] <;> simp
  · rintro k ⟨hi, hpre⟩
    simp only [go_sem]
    rcases Nat.eq_zero_or_pos k with rfl | hk
    · simp only [go_sem]
      rw [← hpre]; rfl
    · obtain ⟨i, rfl⟩ : ∃ i, k = i + 1 := ⟨k - 1, by omega⟩
      have hi' : i < xs.length := by omega
      have hpos : (0 : Int) < ((i + 1 : Nat) : Int) := by omega
      have hpos2 : (0 : Int) < (i : Int) + 1 := by omega
      have e : ((i + 1 : Nat) : Int) - 1 = i := by omega
      have e2 : (i : Int) + 1 - 1 = i := by omega
      rw [take_snoc hi'] at hpre
      ((try simp only [go_sem, hpos, hpos2, e, e2, cN_at hi']); (try simp (disch := omega) only [wrap_i64, wrap_u64, wrap_u32, elemD_lt, hpos, hpos2, e, e2, cN_at hi']); (try simp only [go_sem, hpos, hpos2, e, e2, cN_at hi']); (try simp (disch := omega) only [wrap_i64, wrap_u64, wrap_u32, elemD_lt, hpos, hpos2, e, e2, cN_at hi']); (try simp only [go_sem, hpos, hpos2, e, e2, cN_at hi']))
      refine ⟨by omega, CondR_if (fun h => ?_) (fun h => ?_)⟩
      · have hx : xs[i] = 0 := by omega
        rw [hx, trimZ_snoc] at hpre
        ((try simp only [go_sem, hpos, hpos2, e, e2, show (0 : Int) ≤ (i : Int) by omega]); (try simp (disch := omega) only [wrap_i64, wrap_u64, wrap_u32, elemD_lt, hpos, hpos2, e, e2, show (0 : Int) ≤ (i : Int) by omega]); (try simp only [go_sem, hpos, hpos2, e, e2, show (0 : Int) ≤ (i : Int) by omega]); (try simp (disch := omega) only [wrap_i64, wrap_u64, wrap_u32, elemD_lt, hpos, hpos2, e, e2, show (0 : Int) ≤ (i : Int) by omega]); (try simp only [go_sem, hpos, hpos2, e, e2, show (0 : Int) ≤ (i : Int) by omega]))
        refine ⟨⟨Nat.zero_le _, by omega, .inl trivial⟩, i, ⟨by omega, hpre⟩, Nat.lt_succ_self i, ?_⟩
        refine gstep_list rfl ?_ ?_ rfl ?_ <;> simp only [go_sem, cellsL_refs] <;> simp
      · have hx : xs[i] ≠ 0 := by omega
        simp only [go_sem]
        rw [trimZ_last (by rw [List.getLast?_concat]; simp [hx])] at hpre
        rw [← hpre, List.length_append, List.length_take, Nat.min_eq_left (by omega)]; rfl
set_option maxRecDepth 100000 in
theorem f_nat_Mul (a b : List Nat) (ha : a.length < 10000000000000) (hb : b.length < 10000000000000) (hza : vN a ≠ 0) (hzb : vN b ≠ 0) : FCall Tryz.prog 147 [tN a, tN b] 1 (dig (vN a * vN b)).length (cN (dig (vN a * vN b))) := by
  refine fcall_of_wpA (b := 28) mixed Tryz.call147 Tryz.func147 rfl Tryz.ntmps147 Tryz.results147 (by simp) (by decide) ?_ ?_
  · exact cN_tree
  simp only [go_sem]
  refine call_pure (p_nat_held a (by omega)) rfl ?_
  simp only [go_sem]
  refine call_pure (p_nat_held b (by omega)) rfl ?_
  have hxa := held_length a
  have hyb := held_length b
  have hX := IsN_held a
  have hY := IsN_held b
  unfold vN at *
  generalize held a = x at *
  generalize held b = y at *
  have hx := hX.1
  have hy := hY.1
  have hx0 : x ≠ [] := fun h => hza (by rw [h]; rfl)
  have hlx : 0 < x.length := List.length_pos_iff.2 hx0
  have hx1 : ¬ ((x.length : Int) = 0) := by omega
  have hy0 : y ≠ [] := fun h => hzb (by rw [h]; rfl)
  have hly : 0 < y.length := List.length_pos_iff.2 hy0
  have hy1 : ¬ ((y.length : Int) = 0) := by omega
  ((try simp only [go_sem, hx1, hy1]); (try simp (disch := omega) only [wrap_i64, wrap_u64, wrap_u32, elemD_lt, hx1, hy1]); (try simp only [go_sem, hx1, hy1]); (try simp (disch := omega) only [wrap_i64, wrap_u64, wrap_u32, elemD_lt, hx1, hy1]); (try simp only [go_sem, hx1, hy1]))
  refine ⟨by omega, ?_⟩
  have hS' : (x.length : Int) + (y.length : Int) = ((x.length + y.length : Nat) : Int) := by omega
  have hwS : IntKind.wrap .i64 ((x.length + y.length : Nat) : Int) = ((x.length + y.length : Nat) : Int) := wrap_i64 (by omega) (by omega)
  refine loop_inv (fun p : Nat × List Nat => stL 80 [(0, aN x), (1, aN y), (5, .one (.vec 28 1 0 (x.length + y.length))), (29, aN x), (30, litI .i64 x.length), (31, litI .i64 p.1)] [(28, cN p.2)])
    (fun p => p.1 ≤ x.length ∧ MulO x y p.1 p.2) (fun p => x.length - p.1) (0, List.replicate (x.length + y.length) 0) ?_ ⟨Nat.zero_le _, by simp, (fun z hz => by rw [List.eq_of_mem_replicate hz]; decide), (fun k _ => by simp [List.getD_eq_getElem?_getD, List.getElem?_replicate]; split <;> rfl), by rw [val_replicate]; simp [val]⟩ ?_
  · refine gstep_list rfl ?_ ?_ rfl ?_ <;> simp only [go_sem, hS', hwS, cellsL_refs, cN_repl] <;> simp
  · rintro ⟨i, w⟩ ⟨hi, hs⟩
    simp only at hi hs ⊢
    simp only [go_sem]
    refine CondR_if (fun hlt => ?_) (fun hge => ?_)
    · have hlt' : i < x.length := by omega
      have hxi := hx _ (List.getElem_mem hlt')
      have hxi' := hxi
      simp only [BB] at hxi'
      simp only [go_sem, elemD_lt hlt', hlt]
      refine ⟨by omega, ?_⟩
      refine loop_inv (fun p : Nat × List Nat × Nat => stL 80 [(0, aN x), (1, aN y), (5, .one (.vec 28 1 0 (x.length + y.length))), (6, litI .i64 i), (7, litI .u32 x[i]), (8, litI .u64 p.2.2), (29, aN x), (30, litI .i64 x.length), (31, litI .i64 i), (36, aN y), (37, litI .i64 y.length), (38, litI .i64 p.1)] [(28, cN p.2.1)])
        (fun p => p.1 ≤ y.length ∧ MulI x y i x[i] p.1 p.2.1 p.2.2) (fun p => y.length - p.1) (0, w, 0) ?_ ⟨Nat.zero_le _, hs.enter⟩ ?_
      · refine gstep_list rfl ?_ ?_ rfl ?_ <;> simp only [go_sem, cellsL_refs] <;> simp
      · rintro ⟨j, w, c⟩ ⟨hj, hs⟩
        simp only at hj hs ⊢
        simp only [go_sem]
        refine CondR_if (fun hjl => ?_) (fun hjl => ?_)
        · have hjl' : j < y.length := by omega
          have hyj := hy _ (List.getElem_mem hjl')
          have hyj' := hyj
          simp only [BB] at hyj'
          have hw : i + j < w.length := by have := hs.1; omega
          have hwj := hs.2.1 _ (List.getElem_mem hw)
          have hc := hs.2.2.1
          simp only [BB] at hwj hc
          have hprod : x[i] * y[j] ≤ 999999999 * 999999999 := Nat.mul_le_mul (by omega) (by omega)
          have hnx := hs.next hjl' hw hxi hyj rfl
          have eij : (i : Int) + (j : Int) = ((i + j : Nat) : Int) := by omega
          have et : ((c : Int) + ((w[i + j] : Int) + (x[i] : Int) * (y[j] : Int))) = ((c + (w[i + j] + x[i] * y[j]) : Nat) : Int) := by omega
          have hmod : (c + (w[i + j] + x[i] * y[j])) % 1000000000 < 1000000000 := Nat.mod_lt _ (by decide)
          generalize hT : c + (w[i + j] + x[i] * y[j]) = t at *
          ((try simp only [go_sem, elemD_lt hjl', hjl, eij, cN_at hw, et, tmodB, tdivB]); (try simp (disch := omega) only [wrap_i64, wrap_u64, wrap_u32, elemD_lt, elemD_lt hjl', hjl, eij, cN_at hw, et, tmodB, tdivB]); (try simp only [go_sem, elemD_lt hjl', hjl, eij, cN_at hw, et, tmodB, tdivB]); (try simp (disch := omega) only [wrap_i64, wrap_u64, wrap_u32, elemD_lt, elemD_lt hjl', hjl, eij, cN_at hw, et, tmodB, tdivB]); (try simp only [go_sem, elemD_lt hjl', hjl, eij, cN_at hw, et, tmodB, tdivB]))
          have hwl := hs.1
          refine ⟨by omega, ⟨by omega, by omega⟩, ⟨by omega, by omega⟩, by rw [cN_len]; omega, ?_⟩
          refine ⟨(j + 1, w.set (i + j) (t % BB), t / BB), ⟨hjl', hnx⟩, (by show y.length - (j + 1) < y.length - j; omega), ?_⟩
          refine gstep_list rfl ?_ ?_ rfl ?_ <;> simp only [go_sem, cellsL_refs, cN_sd hw, BB] <;> simp
        · obtain rfl : j = y.length := by omega
          have hwl := hs.1
          have hc := hs.2.2.1
          simp only [BB] at hc
          have hw : i + y.length < w.length := by omega
          have hnx := hs.done hlt'
          have eij : (i : Int) + (y.length : Int) = ((i + y.length : Nat) : Int) := by omega
          ((try simp only [go_sem, eij]); (try simp (disch := omega) only [wrap_i64, wrap_u64, wrap_u32, elemD_lt, eij]); (try simp only [go_sem, eij]); (try simp (disch := omega) only [wrap_i64, wrap_u64, wrap_u32, elemD_lt, eij]); (try simp only [go_sem, eij]))
          refine ⟨⟨by omega, by omega⟩, by rw [cN_len]; omega, ?_⟩
          refine ⟨(i + 1, w.set (i + y.length) c), ⟨hlt', hnx⟩, (by show x.length - (i + 1) < x.length - i; omega), ?_⟩
          refine gstep_list rfl ?_ ?_ rfl ?_ <;> simp only [go_sem, cellsL_refs, cN_sd hw] <;> simp
    · obtain rfl : i = x.length := by omega
      obtain ⟨h1, h2, h3, h4⟩ := hs
      rw [List.take_length] at h4
      simp only [go_sem]
      rw [← h1]
      refine call_mutG 28 (by decide) (m_nat_trim w (by omega)) (by simp only [go_sem] <;> rfl) (by simp only [go_sem] <;> rfl) backs_vec cN_tree cN_tree ?_
      obtain ⟨l, hl⟩ := trimZ_take (xs := w)
      rw [← h4, ← trimZ_lt h2]
      simp only [go_sem]
      exact ⟨cN l, (congrArg cN hl).trans cellsL_append⟩

end Go.Proofs.YtgnfgaioeldagaaGreat
namespace Go.Proofs.YtgnfgaioeldagaaGreat
open Go Go.Abs

theorem get_mid {A B : List Nat} {x : Nat} (h : A.length < (A ++ x :: B).length) : (A ++ x :: B)[A.length] = x := by simp
theorem set_mid {A B : List Nat} {x y : Nat} : (A ++ x :: B).set A.length y = A ++ y :: B := by simp

/-- u less q times v, limb by limb: done, kept, borrowed. -/
def LessI (u v : List Nat) (q : Nat) (ds : List Nat) (c b : Nat) : Prop :=
  ds.length ≤ u.length ∧ (∀ z ∈ ds, z < BB) ∧ c < BB ∧ b ≤ 1 ∧ (v.length < ds.length → c = 0) ∧ val ds + q * val (v.take ds.length) = val (u.take ds.length) + BB ^ ds.length * (b + c)
theorem LessI.next {u v ds : List Nat} {q c b e t b' : Nat} (h : LessI u v q ds c b) (hu : ∀ z ∈ u, z < BB) (hv : ∀ z ∈ v, z < BB) (hq : q < BB) (hk : ds.length < u.length) (ht : t = c + q * v.getD ds.length 0) (hb' : b' ≤ 1) (he : e < BB) (hd : e + t % BB + b = u[ds.length] + BB * b') :
    LessI u v q (ds ++ [e]) (t / BB) b' := by
  obtain ⟨h1, h2, h3, h4, h5, h6⟩ := h
  have hvk : v.getD ds.length 0 < BB := by
    by_cases h : ds.length < v.length
    · simp [h]; exact hv _ (List.getElem_mem h)
    · simp [show v.length ≤ ds.length by omega, BB]
  have hlen : (ds ++ [e]).length = ds.length + 1 := by simp
  have e2 := Nat.mod_add_div t BB
  rw [LessI, hlen]
  refine ⟨hk, fun z hz => ?_, ?_, hb', fun hvl => ?_, ?_⟩
  · rcases List.mem_append.1 hz with hz | hz
    · exact h2 z hz
    · simp at hz; subst hz; exact he
  · have h7 : q * v.getD ds.length 0 ≤ 999999999 * 999999999 := Nat.mul_le_mul (by simp only [BB] at hq; omega) (by simp only [BB] at hvk; omega)
    simp only [BB] at h3 ⊢; omega
  · have : v.getD ds.length 0 = 0 := by simp [show v.length ≤ ds.length by omega]
    rw [this] at ht
    exact Nat.div_eq_of_lt (by omega)
  · rw [val_append, val_take, val_take, Nat.mul_add, Nat.pow_succ, Nat.mul_assoc]
    have eu : u.getD ds.length 0 = u[ds.length] := by simp [hk]
    rw [eu]
    have e3 := congrArg (BB ^ ds.length * ·) hd
    have e4 := congrArg (BB ^ ds.length * ·) (e2.trans ht)
    simp only [Nat.mul_add] at e3 e4 h6
    simp only [val, Nat.mul_zero, Nat.add_zero, Nat.mul_add]
    have e5 : q * (BB ^ ds.length * v.getD ds.length 0) = BB ^ ds.length * (q * v.getD ds.length 0) := by rw [← Nat.mul_assoc, ← Nat.mul_assoc, Nat.mul_comm q]
    rw [e5]; omega

/-- What less tells: the limbs that are left, whether it was once too often. -/
def lessR (u v : List Nat) (q : Nat) (u' : List Nat) (b : Nat) : Prop := u'.length = u.length ∧ (∀ z ∈ u', z < BB) ∧ b ≤ 1 ∧ val u' + q * val v = val u + BB ^ u.length * b
theorem LessI.done {u v ds : List Nat} {q c b : Nat} (h : LessI u v q ds c b) (hl : ds.length = u.length) (hv : v.length < u.length) : lessR u v q ds b := by
  obtain ⟨h1, h2, h3, h4, h5, h6⟩ := h
  have hc := h5 (by omega)
  subst hc
  rw [List.take_of_length_le (by omega), List.take_of_length_le (by omega), Nat.add_zero] at h6
  exact ⟨hl, h2, h4, by rw [← hl]; exact h6⟩

/-- So many limbs of a number. -/
def pad : Nat → Nat → List Nat
  | 0, _ => []
  | n + 1, m => m % BB :: pad n (m / BB)
theorem pad_len : ∀ {n m : Nat}, (pad n m).length = n
  | 0, _ => rfl
  | n + 1, m => by simp [pad, pad_len]
theorem pad_lt : ∀ {n m : Nat}, ∀ z ∈ pad n m, z < BB
  | 0, _, z, hz => by simp [pad] at hz
  | n + 1, m, z, hz => by
    simp only [pad, List.mem_cons] at hz
    rcases hz with rfl | hz
    · exact Nat.mod_lt _ (by decide)
    · exact pad_lt z hz
theorem pad_val : ∀ {xs : List Nat} {n : Nat}, xs.length = n → (∀ z ∈ xs, z < BB) → pad n (val xs) = xs
  | [], _, h, _ => by subst h; rfl
  | x :: l, _, h, hx => by
    subst h
    have h1 := hx x (List.mem_cons_self ..)
    simp only [List.length_cons, pad, val]
    rw [Nat.add_mul_mod_self_left, Nat.mod_eq_of_lt h1, Nat.add_mul_div_left _ _ (by decide), Nat.div_eq_of_lt h1, Nat.zero_add, pad_val rfl fun z hz => hx z (List.mem_cons_of_mem _ hz)]
theorem val_pad : ∀ {n m : Nat}, m < BB ^ n → val (pad n m) = m
  | 0, m, h => by simp at h; subst h; rfl
  | n + 1, m, h => by
    simp only [pad, val]
    rw [val_pad (by rw [Nat.div_lt_iff_lt_mul (by decide), ← Nat.pow_succ]; exact h)]
    exact Nat.mod_add_div m BB
theorem pad_of {xs : List Nat} {n m : Nat} (h : xs.length = n) (hx : ∀ z ∈ xs, z < BB) (hm : val xs = m) : xs = pad n m := by rw [← hm, pad_val h hx]

def lessB (u v : List Nat) (q : Nat) : Nat := if q * val v ≤ val u then 0 else 1
def lessU (u v : List Nat) (q : Nat) : List Nat := pad u.length (val u + BB ^ u.length * lessB u v q - q * val v)
theorem lessR.tells {u v u' : List Nat} {q b : Nat} (h : lessR u v q u' b) (hu : ∀ z ∈ u, z < BB) : u' = lessU u v q ∧ b = lessB u v q := by
  obtain ⟨h1, h2, h3, h4⟩ := h
  have h5 := val_lt h2
  have h6 := val_lt hu
  rw [h1] at h5
  have hb : b = lessB u v q := by
    unfold lessB
    have : b = 0 ∨ b = 1 := by omega
    rcases this with rfl | rfl
    · rw [if_pos (by omega)]
    · rw [if_neg (by omega)]
  refine ⟨pad_of h1 h2 ?_, hb⟩
  rw [← hb]; omega

set_option maxRecDepth 100000 in
theorem m_nat_less (A u B v : List Nat) (q : Nat) (hl : (A ++ u ++ B).length < 10000000000000) (hu : ∀ z ∈ u, z < BB) (hv : ∀ z ∈ v, z < BB) (hq : q < BB) (hvl : v.length < u.length) :
    MCall Tryz.prog 176 [.one (.vec PIN 1 A.length u.length), aN v, litI .u64 q] (single PIN (cN (A ++ u ++ B))) (litB (decide (0 < lessB u v q))) (single PIN (cN (A ++ lessU u v q ++ B))) := by
  refine mcall_of_wpAG mixed Tryz.call176 Tryz.func176 rfl Tryz.ntmps176 Tryz.results176 (by simp) (by decide) ?_ ?_ ?_
  · exact backs_sc rfl
  · exact cN_tree
  have hq' := hq
  simp only [BB] at hq'
  simp only [List.length_append] at hl
  simp only [go_sem]
  refine loop_inv (fun p : List Nat × Nat × Nat => stL 54 [(0, .one (.vec PIN 1 A.length u.length)), (1, aN v), (2, litI .u64 q), (7, litI .u64 p.2.1), (8, litI .i64 p.2.2), (12, litI .i64 u.length), (13, litI .i64 p.1.length)] [(PIN, cN (A ++ p.1 ++ (u.drop p.1.length ++ B)))])
    (fun p => LessI u v q p.1 p.2.1 p.2.2) (fun p => u.length - p.1.length) ([], 0, 0) ?_ ⟨Nat.zero_le _, by simp, by decide, Nat.zero_le _, fun _ => rfl, by simp [val]⟩ ?_
  · refine gstep_list rfl ?_ ?_ rfl ?_ <;> simp only [go_sem, cellsL_refs] <;> simp
  · rintro ⟨ds, c, b⟩ hs
    simp only at hs ⊢
    simp only [go_sem]
    refine CondR_if (fun hlt => ?_) (fun hge => ?_)
    · have hlt' : ds.length < u.length := by omega
      obtain ⟨x, us, hd⟩ : ∃ x us, u.drop ds.length = x :: us := ⟨_, _, List.drop_eq_getElem_cons hlt'⟩
      have hx : u[ds.length] = x := by rw [List.drop_eq_getElem_cons hlt'] at hd; exact (List.cons.inj hd).1
      have hus : us = u.drop (ds.length + 1) := by rw [List.drop_eq_getElem_cons hlt'] at hd; exact (List.cons.inj hd).2.symm
      have hxl := hu _ (List.getElem_mem hlt')
      rw [hx] at hxl
      simp only [BB] at hxl
      have hc := hs.2.2.1
      simp only [BB] at hc
      have hb := hs.2.2.2.1
      rw [hd, List.cons_append]
      have hset : ∀ e, (A ++ (ds ++ x :: (us ++ B))).set (A.length + ds.length) e = A ++ (ds ++ [e]) ++ (us ++ B) := fun e => by
        rw [← List.append_assoc, ← List.length_append, set_mid]; simp
      have hgm : ∀ h : A.length + ds.length < (A ++ (ds ++ x :: (us ++ B))).length, (A ++ (ds ++ x :: (us ++ B)))[A.length + ds.length] = x := fun h => by
        simp only [← List.append_assoc A]
        simp only [← List.length_append]
        simp
      have hw : A.length + ds.length < (A ++ (ds ++ x :: (us ++ B))).length := by simp only [List.length_append, List.length_cons]; omega
      replace hgm := hgm hw
      generalize A ++ (ds ++ x :: (us ++ B)) = W at *
      simp only [go_sem]
      refine CondR_if (fun hkv => ?_) (fun hkv => ?_)
      · have hkv' : ds.length < v.length := by omega
        have hy := hv _ (List.getElem_mem hkv')
        simp only [BB] at hy
        have hprod : q * v[ds.length] ≤ 999999999 * 999999999 := Nat.mul_le_mul (by omega) (by omega)
        have ht : c + q * v[ds.length] = c + q * v.getD ds.length 0 := by simp [hkv']
        have et : (c : Int) + (q : Int) * (v[ds.length] : Int) = ((c + q * v[ds.length] : Nat) : Int) := by omega
        generalize c + q * v[ds.length] = t at *
        have htm : t % 1000000000 < 1000000000 := Nat.mod_lt _ (by decide)
        ((try simp only [go_sem, elemD_lt hkv', hkv, et, tmodB, tdivB, cN_at hw, hgm]); (try simp (disch := omega) only [wrap_i64, wrap_u64, wrap_u32, elemD_lt, elemD_lt hkv', hkv, et, tmodB, tdivB, cN_at hw, hgm]); (try simp only [go_sem, elemD_lt hkv', hkv, et, tmodB, tdivB, cN_at hw, hgm]); (try simp (disch := omega) only [wrap_i64, wrap_u64, wrap_u32, elemD_lt, elemD_lt hkv', hkv, et, tmodB, tdivB, cN_at hw, hgm]); (try simp only [go_sem, elemD_lt hkv', hkv, et, tmodB, tdivB, cN_at hw, hgm]))
        refine ⟨by omega, ⟨by omega, by omega⟩, CondR_if (fun hbb => ?_) (fun hbb => ?_)⟩
        · have en : x + 1000000000 - t % 1000000000 - b < 1000000000 := by omega
          have ee : ((x : Int) - ((t % 1000000000 : Nat) : Int) - (b : Int)) + 1000000000 = ((x + 1000000000 - t % 1000000000 - b : Nat) : Int) := by omega
          have hnx := hs.next (e := x + 1000000000 - t % 1000000000 - b) (t := t) (b' := 1) hu hv hq hlt' ht (by decide) (by simp only [BB]; exact en) (by simp only [BB]; omega)
          generalize x + 1000000000 - t % 1000000000 - b = e at *
          ((try simp only [go_sem, ee]); (try simp (disch := omega) only [wrap_i64, wrap_u64, wrap_u32, elemD_lt, ee]); (try simp only [go_sem, ee]); (try simp (disch := omega) only [wrap_i64, wrap_u64, wrap_u32, elemD_lt, ee]); (try simp only [go_sem, ee]))
          refine ⟨by omega, by rw [cN_len]; omega, ?_⟩
          refine ⟨(ds ++ [e], t / 1000000000, 1), hnx, (by show u.length - (ds ++ [e]).length < u.length - ds.length; rw [List.length_append]; simp only [List.length_cons, List.length_nil]; omega), ?_⟩
          refine gstep_list rfl ?_ ?_ rfl ?_ <;> simp only [go_sem, cellsL_refs, cN_sd hw, hset, hus, List.length_append, List.length_cons, List.length_nil] <;> simp
        · have en : x - t % 1000000000 - b < 1000000000 := by omega
          have ee : ((x : Int) - ((t % 1000000000 : Nat) : Int) - (b : Int)) = ((x - t % 1000000000 - b : Nat) : Int) := by omega
          have hnx := hs.next (e := x - t % 1000000000 - b) (t := t) (b' := 0) hu hv hq hlt' ht (by decide) (by simp only [BB]; exact en) (by simp only [BB]; omega)
          generalize x - t % 1000000000 - b = e at *
          ((try simp only [go_sem, ee]); (try simp (disch := omega) only [wrap_i64, wrap_u64, wrap_u32, elemD_lt, ee]); (try simp only [go_sem, ee]); (try simp (disch := omega) only [wrap_i64, wrap_u64, wrap_u32, elemD_lt, ee]); (try simp only [go_sem, ee]))
          refine ⟨by omega, by rw [cN_len]; omega, ?_⟩
          refine ⟨(ds ++ [e], t / 1000000000, 0), hnx, (by show u.length - (ds ++ [e]).length < u.length - ds.length; rw [List.length_append]; simp only [List.length_cons, List.length_nil]; omega), ?_⟩
          refine gstep_list rfl ?_ ?_ rfl ?_ <;> simp only [go_sem, cellsL_refs, cN_sd hw, hset, hus, List.length_append, List.length_cons, List.length_nil] <;> simp
      · obtain ⟨t, et⟩ : ∃ t, t = c := ⟨c, rfl⟩
        have ht : t = c + q * v.getD ds.length 0 := by rw [et]; simp [show v.length ≤ ds.length by omega]
        have htm : t % 1000000000 < 1000000000 := Nat.mod_lt _ (by decide)
        ((try simp only [go_sem, ← et, tmodB, tdivB, cN_at hw, hgm]); (try simp (disch := omega) only [wrap_i64, wrap_u64, wrap_u32, elemD_lt, ← et, tmodB, tdivB, cN_at hw, hgm]); (try simp only [go_sem, ← et, tmodB, tdivB, cN_at hw, hgm]); (try simp (disch := omega) only [wrap_i64, wrap_u64, wrap_u32, elemD_lt, ← et, tmodB, tdivB, cN_at hw, hgm]); (try simp only [go_sem, ← et, tmodB, tdivB, cN_at hw, hgm]))
        refine ⟨⟨by omega, by omega⟩, CondR_if (fun hbb => ?_) (fun hbb => ?_)⟩
        · have en : x + 1000000000 - t % 1000000000 - b < 1000000000 := by omega
          have ee : ((x : Int) - ((t % 1000000000 : Nat) : Int) - (b : Int)) + 1000000000 = ((x + 1000000000 - t % 1000000000 - b : Nat) : Int) := by omega
          have hnx := hs.next (e := x + 1000000000 - t % 1000000000 - b) (t := t) (b' := 1) hu hv hq hlt' ht (by decide) (by simp only [BB]; exact en) (by simp only [BB]; omega)
          generalize x + 1000000000 - t % 1000000000 - b = e at *
          ((try simp only [go_sem, ee]); (try simp (disch := omega) only [wrap_i64, wrap_u64, wrap_u32, elemD_lt, ee]); (try simp only [go_sem, ee]); (try simp (disch := omega) only [wrap_i64, wrap_u64, wrap_u32, elemD_lt, ee]); (try simp only [go_sem, ee]))
          refine ⟨by omega, by rw [cN_len]; omega, ?_⟩
          refine ⟨(ds ++ [e], t / 1000000000, 1), hnx, (by show u.length - (ds ++ [e]).length < u.length - ds.length; rw [List.length_append]; simp only [List.length_cons, List.length_nil]; omega), ?_⟩
          refine gstep_list rfl ?_ ?_ rfl ?_ <;> simp only [go_sem, cellsL_refs, cN_sd hw, hset, hus, List.length_append, List.length_cons, List.length_nil] <;> simp
        · have en : x - t % 1000000000 - b < 1000000000 := by omega
          have ee : ((x : Int) - ((t % 1000000000 : Nat) : Int) - (b : Int)) = ((x - t % 1000000000 - b : Nat) : Int) := by omega
          have hnx := hs.next (e := x - t % 1000000000 - b) (t := t) (b' := 0) hu hv hq hlt' ht (by decide) (by simp only [BB]; exact en) (by simp only [BB]; omega)
          generalize x - t % 1000000000 - b = e at *
          ((try simp only [go_sem, ee]); (try simp (disch := omega) only [wrap_i64, wrap_u64, wrap_u32, elemD_lt, ee]); (try simp only [go_sem, ee]); (try simp (disch := omega) only [wrap_i64, wrap_u64, wrap_u32, elemD_lt, ee]); (try simp only [go_sem, ee]))
          refine ⟨by omega, by rw [cN_len]; omega, ?_⟩
          refine ⟨(ds ++ [e], t / 1000000000, 0), hnx, (by show u.length - (ds ++ [e]).length < u.length - ds.length; rw [List.length_append]; simp only [List.length_cons, List.length_nil]; omega), ?_⟩
          refine gstep_list rfl ?_ ?_ rfl ?_ <;> simp only [go_sem, cellsL_refs, cN_sd hw, hset, hus, List.length_append, List.length_cons, List.length_nil] <;> simp
    · have hdl : ds.length = u.length := by have := hs.1; omega
      have hR := (hs.done hdl hvl).tells hu
      rw [hdl, List.drop_length]
      simp only [go_sem]
      rw [← hR.1, ← hR.2]
      exact ⟨by congr 1; rw [decide_eq_decide]; omega, rfl⟩

end Go.Proofs.YtgnfgaioeldagaaGreat
namespace Go.Proofs.YtgnfgaioeldagaaGreat
open Go Go.Abs
def MoreI (u v ds : List Nat) (c : Nat) : Prop := ds.length ≤ u.length ∧ (∀ z ∈ ds, z < BB) ∧ c ≤ 1 ∧ val ds + BB ^ ds.length * c = val (u.take ds.length) + val (v.take ds.length)
theorem MoreI.next {u v ds : List Nat} {c t : Nat} (h : MoreI u v ds c) (hu : ∀ z ∈ u, z < BB) (hv : ∀ z ∈ v, z < BB) (hk : ds.length < u.length) (ht : t = u[ds.length] + c + v.getD ds.length 0) : MoreI u v (ds ++ [t % BB]) (t / BB) := by
  obtain ⟨h1, h2, h3, h4⟩ := h
  have hvk : v.getD ds.length 0 < BB := by
    by_cases h : ds.length < v.length
    · simp [h]; exact hv _ (List.getElem_mem h)
    · simp [show v.length ≤ ds.length by omega, BB]
  have huk := hu _ (List.getElem_mem hk)
  have hlen : (ds ++ [t % BB]).length = ds.length + 1 := by simp
  rw [MoreI, hlen]
  refine ⟨hk, fun z hz => ?_, ?_, ?_⟩
  · rcases List.mem_append.1 hz with hz | hz
    · exact h2 z hz
    · simp at hz; subst hz; exact Nat.mod_lt _ (by decide)
  · simp only [BB] at hvk huk ⊢; omega
  · have eu : u.getD ds.length 0 = u[ds.length] := by simp [hk]
    rw [val_append, val_take, val_take, Nat.pow_succ, Nat.mul_assoc, eu]
    have e4 := congrArg (BB ^ ds.length * ·) ((Nat.mod_add_div t BB).trans ht)
    simp only [Nat.mul_add] at e4
    simp only [val, Nat.mul_zero, Nat.add_zero]
    omega
def moreU (u v : List Nat) : List Nat := pad u.length ((val u + val v) % BB ^ u.length)
theorem MoreI.done {u v ds : List Nat} {c : Nat} (h : MoreI u v ds c) (hl : ds.length = u.length) (hv : v.length ≤ u.length) : ds = moreU u v := by
  obtain ⟨h1, h2, h3, h4⟩ := h
  rw [hl, List.take_length, List.take_of_length_le hv] at h4
  have h5 := val_lt h2
  rw [hl] at h5
  refine pad_of hl h2 ?_
  rw [← h4, Nat.add_mul_mod_self_left, Nat.mod_eq_of_lt h5]

set_option maxRecDepth 100000 in
theorem m_nat_more (A u B v : List Nat) (hl : (A ++ u ++ B).length < 10000000000000) (hu : ∀ z ∈ u, z < BB) (hv : ∀ z ∈ v, z < BB) (hvl : v.length ≤ u.length) :
    MCall Tryz.prog 177 [.one (.vec PIN 1 A.length u.length), aN v] (single PIN (cN (A ++ u ++ B))) undefA (single PIN (cN (A ++ moreU u v ++ B))) := by
  refine mcall_of_wpAG mixed Tryz.call177 Tryz.func177 rfl Tryz.ntmps177 Tryz.results177 (by simp) (by decide) ?_ ?_ ?_
  · exact backs_sc rfl
  · exact cN_tree
  simp only [List.length_append] at hl
  simp only [go_sem]
  refine loop_inv (fun p : List Nat × Nat => stL 36 [(0, .one (.vec PIN 1 A.length u.length)), (1, aN v), (4, litI .u32 p.2), (8, litI .i64 u.length), (9, litI .i64 p.1.length)] [(PIN, cN (A ++ p.1 ++ (u.drop p.1.length ++ B)))])
    (fun p => MoreI u v p.1 p.2) (fun p => u.length - p.1.length) ([], 0) ?_ ⟨Nat.zero_le _, by simp, Nat.zero_le _, by simp [val]⟩ ?_
  · refine gstep_list rfl ?_ ?_ rfl ?_ <;> simp only [go_sem, cellsL_refs] <;> simp
  · rintro ⟨ds, c⟩ hs
    simp only at hs ⊢
    simp only [go_sem]
    refine CondR_if (fun hlt => ?_) (fun hge => ?_)
    · have hlt' : ds.length < u.length := by omega
      obtain ⟨x, us, hd⟩ : ∃ x us, u.drop ds.length = x :: us := ⟨_, _, List.drop_eq_getElem_cons hlt'⟩
      have hx : u[ds.length] = x := by rw [List.drop_eq_getElem_cons hlt'] at hd; exact (List.cons.inj hd).1
      have hus : us = u.drop (ds.length + 1) := by rw [List.drop_eq_getElem_cons hlt'] at hd; exact (List.cons.inj hd).2.symm
      have hxl := hu _ (List.getElem_mem hlt')
      rw [hx] at hxl
      simp only [BB] at hxl
      have hc := hs.2.2.1
      rw [hd, List.cons_append]
      have hset : ∀ e, (A ++ (ds ++ x :: (us ++ B))).set (A.length + ds.length) e = A ++ (ds ++ [e]) ++ (us ++ B) := fun e => by
        rw [← List.append_assoc, ← List.length_append, set_mid]; simp
      have hgm : ∀ h : A.length + ds.length < (A ++ (ds ++ x :: (us ++ B))).length, (A ++ (ds ++ x :: (us ++ B)))[A.length + ds.length] = x := fun h => by
        simp only [← List.append_assoc A]
        simp only [← List.length_append]
        simp
      have hw : A.length + ds.length < (A ++ (ds ++ x :: (us ++ B))).length := by simp only [List.length_append, List.length_cons]; omega
      replace hgm := hgm hw
      generalize A ++ (ds ++ x :: (us ++ B)) = W at *
      simp only [go_sem, cN_at hw, hgm]
      refine ⟨⟨by omega, by omega⟩, CondR_if (fun hkv => ?_) (fun hkv => ?_)⟩
      · have hkv' : ds.length < v.length := by omega
        have hy := hv _ (List.getElem_mem hkv')
        simp only [BB] at hy
        have ht : x + c + v[ds.length] = u[ds.length] + c + v.getD ds.length 0 := by simp [hkv', hx]
        have et : (x : Int) + (c : Int) + (v[ds.length] : Int) = ((x + c + v[ds.length] : Nat) : Int) := by omega
        have hnx := hs.next hu hv hlt' ht
        have htb : x + c + v[ds.length] < 4294967296 := by omega
        generalize x + c + v[ds.length] = t at *
        have htm : t % 1000000000 < 1000000000 := Nat.mod_lt _ (by decide)
        ((try simp only [go_sem, elemD_lt hkv', hkv, et, tmodB, tdivB, cN_at hw, hgm]); (try simp (disch := omega) only [wrap_i64, wrap_u64, wrap_u32, elemD_lt, elemD_lt hkv', hkv, et, tmodB, tdivB, cN_at hw, hgm]); (try simp only [go_sem, elemD_lt hkv', hkv, et, tmodB, tdivB, cN_at hw, hgm]); (try simp (disch := omega) only [wrap_i64, wrap_u64, wrap_u32, elemD_lt, elemD_lt hkv', hkv, et, tmodB, tdivB, cN_at hw, hgm]); (try simp only [go_sem, elemD_lt hkv', hkv, et, tmodB, tdivB, cN_at hw, hgm]))
        refine ⟨by omega, ⟨by omega, by omega⟩, by rw [cN_len]; omega, ?_⟩
        refine ⟨(ds ++ [t % BB], t / BB), hnx, (by show u.length - (ds ++ [t % BB]).length < u.length - ds.length; rw [List.length_append]; simp only [List.length_cons, List.length_nil]; omega), ?_⟩
        refine gstep_list rfl ?_ ?_ rfl ?_ <;> simp only [go_sem, cellsL_refs, cN_sd hw, hset, hus, BB, List.length_append, List.length_cons, List.length_nil] <;> simp
      · have ht : x + c = u[ds.length] + c + v.getD ds.length 0 := by simp [show v.length ≤ ds.length by omega, hx]
        have et : (x : Int) + (c : Int) = ((x + c : Nat) : Int) := by omega
        have hnx := hs.next hu hv hlt' ht
        have htb : x + c < 4294967296 := by omega
        generalize x + c = t at *
        have htm : t % 1000000000 < 1000000000 := Nat.mod_lt _ (by decide)
        ((try simp only [go_sem, et, tmodB, tdivB, cN_at hw, hgm]); (try simp (disch := omega) only [wrap_i64, wrap_u64, wrap_u32, elemD_lt, et, tmodB, tdivB, cN_at hw, hgm]); (try simp only [go_sem, et, tmodB, tdivB, cN_at hw, hgm]); (try simp (disch := omega) only [wrap_i64, wrap_u64, wrap_u32, elemD_lt, et, tmodB, tdivB, cN_at hw, hgm]); (try simp only [go_sem, et, tmodB, tdivB, cN_at hw, hgm]))
        refine ⟨⟨by omega, by omega⟩, by rw [cN_len]; omega, ?_⟩
        refine ⟨(ds ++ [t % BB], t / BB), hnx, (by show u.length - (ds ++ [t % BB]).length < u.length - ds.length; rw [List.length_append]; simp only [List.length_cons, List.length_nil]; omega), ?_⟩
        refine gstep_list rfl ?_ ?_ rfl ?_ <;> simp only [go_sem, cellsL_refs, cN_sd hw, hset, hus, BB, List.length_append, List.length_cons, List.length_nil] <;> simp
    · have hdl : ds.length = u.length := by have := hs.1; omega
      have hR := hs.done hdl hvl
      rw [hdl, List.drop_length]
      simp only [go_sem]
      rw [← hR]
end Go.Proofs.YtgnfgaioeldagaaGreat
namespace Go.Proofs.YtgnfgaioeldagaaGreat
open Go Go.Abs

/-- The three first limbs of u, the two of v. -/
structure Knuth (U V D top u2 v1 v2 : Nat) : Prop where
  u : ∃ L, L < D ∧ U = L + D * (u2 + BB * top)
  v : ∃ M, M < D ∧ V = M + D * (v2 + BB * v1)
  u2 : u2 < BB
  v2 : v2 < BB
  v1 : 1 ≤ v1
  lt : U < BB * V

section
variable {U V D top u2 v1 v2 q r : Nat}
theorem Knuth.pos (k : Knuth U V D top u2 v1 v2) : 0 < D ∧ 0 < V := by
  obtain ⟨L, hL, _⟩ := k.u
  obtain ⟨M, hM, e⟩ := k.v
  refine ⟨by omega, ?_⟩
  have h1 : D * 1 ≤ D * (v2 + BB * v1) := Nat.mul_le_mul_left _ (by have := k.v1; simp only [BB]; omega)
  omega
theorem Knuth.le {x y : Nat} (k : Knuth U V D top u2 v1 v2) (h : D * x ≤ U) (hy : u2 + BB * top < y) : x < y := by
  obtain ⟨L, hL, e⟩ := k.u
  have h1 : D * x < D * (u2 + BB * top + 1) := by rw [Nat.mul_add, Nat.mul_one]; omega
  have := Nat.lt_of_mul_lt_mul_left h1
  omega
theorem Knuth.qV (k : Knuth U V D top u2 v1 v2) {x : Nat} (h : x ≤ U / V) : D * (x * (v2 + BB * v1)) ≤ U := by
  obtain ⟨M, hM, e⟩ := k.v
  have h1 : x * V ≤ U := Nat.le_trans (Nat.mul_le_mul_right _ h) (Nat.div_mul_le_self U V)
  have h2 : x * (D * (v2 + BB * v1)) ≤ x * V := Nat.mul_le_mul_left _ (by omega)
  have e3 : D * (x * (v2 + BB * v1)) = x * (D * (v2 + BB * v1)) := by rw [← Nat.mul_assoc, ← Nat.mul_assoc, Nat.mul_comm D]
  omega
theorem Knuth.start (k : Knuth U V D top u2 v1 v2) : U / V ≤ top / v1 := by
  rw [Nat.le_div_iff_mul_le (by have := k.v1; omega)]
  have h1 := k.qV (Nat.le_refl (U / V))
  have h2 : D * (BB * (U / V * v1)) ≤ D * (U / V * (v2 + BB * v1)) := Nat.mul_le_mul_left _ (by
    rw [Nat.mul_add]
    have : BB * (U / V * v1) = U / V * (BB * v1) := by rw [← Nat.mul_assoc, ← Nat.mul_assoc, Nat.mul_comm BB]
    omega)
  have h3 := k.le (Nat.le_trans h2 h1) (y := BB * (top + 1)) (by have := k.u2; rw [Nat.mul_add]; omega)
  have := Nat.lt_of_mul_lt_mul_left h3
  omega
theorem Knuth.big (k : Knuth U V D top u2 v1 v2) : U / V < BB := by
  rw [Nat.div_lt_iff_lt_mul k.pos.2]; exact k.lt
theorem Knuth.less (k : Knuth U V D top u2 v1 v2) (h : q * v1 + r = top) (hc : r * BB + u2 < q * v2) : U / V ≤ q - 1 := by
  rcases Nat.lt_or_ge (U / V) q with h1 | h1
  · omega
  · exfalso
    have h2 := k.le (k.qV h1) (y := u2 + BB * top + 1) (by omega)
    have e : q * (v2 + BB * v1) = q * v2 + BB * (q * v1) := by rw [Nat.mul_add, ← Nat.mul_assoc, Nat.mul_comm q BB, Nat.mul_assoc]
    rw [e, ← h, Nat.mul_add, Nat.mul_comm BB r] at h2
    omega
theorem Knuth.done (k : Knuth U V D top u2 v1 v2) (h : q * v1 + r = top) (hq : q < BB) (hc : r < BB → q * v2 ≤ r * BB + u2) : q ≤ U / V + 1 := by
  have hc' : q * v2 ≤ r * BB + u2 := by
    rcases Nat.lt_or_ge r BB with h1 | h1
    · exact hc h1
    · have h2 : q * v2 ≤ BB * BB := Nat.mul_le_mul (by omega) (by have := k.v2; omega)
      have h3 : BB * BB ≤ r * BB := Nat.mul_le_mul_right _ h1
      omega
  rcases Nat.lt_or_ge (U / V + 1) q with h1 | h1
  · exfalso
    obtain ⟨p, rfl⟩ : ∃ p, q = p + 1 := ⟨q - 1, by have := Nat.zero_le (U / V); generalize U / V = Q at *; omega⟩
    obtain ⟨L, hL, eU⟩ := k.u
    obtain ⟨M, hM, eV⟩ := k.v
    have h2 : U < p * V := by
      have := Nat.lt_mul_div_succ U k.pos.2
      rw [Nat.mul_comm] at this
      exact Nat.lt_of_lt_of_le this (Nat.mul_le_mul_right _ (by generalize U / V = Q at *; omega))
    have h3 : p * V ≤ p * (D * (v2 + BB * v1 + 1)) := Nat.mul_le_mul_left _ (by rw [Nat.mul_add]; omega)
    have h4 : D * (u2 + BB * top) < D * (p * (v2 + BB * v1 + 1)) := by
      have e : D * (p * (v2 + BB * v1 + 1)) = p * (D * (v2 + BB * v1 + 1)) := by rw [← Nat.mul_assoc, ← Nat.mul_assoc, Nat.mul_comm D]
      omega
    have h5 := Nat.lt_of_mul_lt_mul_left h4
    have e1 : p * (v2 + BB * v1 + 1) = p * v2 + BB * (p * v1) + p := by rw [Nat.mul_add, Nat.mul_add, Nat.mul_one, ← Nat.mul_assoc, Nat.mul_comm p BB, Nat.mul_assoc]
    have e2 : BB * top = BB * (p * v1) + BB * v1 + r * BB := by rw [← h, Nat.add_mul, Nat.one_mul, Nat.mul_add, Nat.mul_add, Nat.mul_comm r]
    have h6 : BB * 1 ≤ BB * v1 := Nat.mul_le_mul_left _ k.v1
    rw [Nat.add_mul] at hc'
    omega
  · exact h1
end

theorem knuth_of {u v : List Nat} {n : Nat} (hu : ∀ z ∈ u, z < BB) (hv : ∀ z ∈ v, z < BB) (hul : u.length = n + 3) (hvl : v.length = n + 2) (hlt : val u < BB * val v) (h1 : v[n + 1] ≠ 0) :
    Knuth (val u) (val v) (BB ^ n) (u[n + 2] * BB + u[n + 1]) u[n] v[n + 1] v[n] := by
  refine ⟨⟨val (u.take n), ?_, ?_⟩, ⟨val (v.take n), ?_, ?_⟩, hu _ (List.getElem_mem _), hv _ (List.getElem_mem _), by omega, hlt⟩
  · have := val_lt (xs := u.take n) fun z hz => hu z (List.mem_of_mem_take hz)
    rwa [List.length_take, Nat.min_eq_left (by omega)] at this
  · rw [val_split (xs := u) (i := n) (by omega), List.drop_eq_getElem_cons (i := n + 1) (by omega), List.drop_eq_getElem_cons (i := n + 2) (by omega), List.drop_eq_nil_of_le (by omega)]
    simp only [val, Nat.mul_zero, Nat.add_zero]
    rw [Nat.add_comm u[n + 1], Nat.mul_comm BB u[n + 2]]
  · have := val_lt (xs := v.take n) fun z hz => hv z (List.mem_of_mem_take hz)
    rwa [List.length_take, Nat.min_eq_left (by omega)] at this
  · rw [val_split (xs := v) (i := n) (by omega), List.drop_eq_getElem_cons (i := n + 1) (by omega), List.drop_eq_nil_of_le (by omega)]
    simp only [val, Nat.mul_zero, Nat.add_zero]

theorem digit_eq {u v : List Nat} (hv0 : 0 < val v) (hB : val v < BB ^ u.length) : lessU u v (val u / val v) = pad u.length (val u % val v) ∧ lessB u v (val u / val v) = 0 := by
  have h1 := Nat.div_mul_le_self (val u) (val v)
  have hb : lessB u v (val u / val v) = 0 := if_pos h1
  refine ⟨?_, hb⟩
  unfold lessU
  rw [hb, Nat.mul_zero, Nat.add_zero]
  congr 1
  have := Nat.div_add_mod (val u) (val v)
  rw [Nat.mul_comm] at this; omega
theorem digit_succ {u v : List Nat} (hu : ∀ z ∈ u, z < BB) (hv0 : 0 < val v) (hB : val v < BB ^ u.length) : moreU (lessU u v (val u / val v + 1)) v = pad u.length (val u % val v) ∧ lessB u v (val u / val v + 1) = 1 := by
  have h1 := Nat.div_mul_le_self (val u) (val v)
  have h2 := Nat.lt_mul_div_succ (val u) hv0
  rw [Nat.mul_comm] at h2
  have hb : lessB u v (val u / val v + 1) = 1 := if_neg (by omega)
  refine ⟨?_, hb⟩
  have hm := Nat.div_add_mod (val u) (val v)
  rw [Nat.mul_comm] at hm
  have hr := Nat.mod_lt (val u) hv0
  have he : (val u / val v + 1) * val v = val u / val v * val v + val v := by rw [Nat.add_mul, Nat.one_mul]
  unfold moreU lessU
  rw [hb, Nat.mul_one, pad_len, val_pad (by omega)]
  congr 1
  rw [show val u + BB ^ u.length - (val u / val v + 1) * val v + val v = val u % val v + BB ^ u.length by omega, Nat.add_mod_right, Nat.mod_eq_of_lt (by omega)]
end Go.Proofs.YtgnfgaioeldagaaGreat
namespace Go.Proofs.YtgnfgaioeldagaaGreat
open Go Go.Abs
set_option maxHeartbeats 1000000

theorem guard_if {P : Program} {m : Nat} {ops : List Oper} {q : St → Prop} {o : Oper} {l : List Oper} {σ : St} {c : Prop} [Decidable c] (h : c → stepA P m o σ (KR P m ops q l o.dst)) (h' : ¬ c → runOps P m ops q l (σ.putO o.dst undefA)) : GuardR (some (decide c)) P m ops q o l σ := by
  by_cases hc : c
  · rw [decide_eq_true hc]; exact h hc
  · rw [decide_eq_false hc]; exact h' hc
theorem guard_ifN {P : Program} {m : Nat} {ops : List Oper} {q : St → Prop} {o : Oper} {l : List Oper} {σ : St} {c : Prop} [Decidable c] (h : ¬ c → stepA P m o σ (KR P m ops q l o.dst)) (h' : c → runOps P m ops q l (σ.putO o.dst undefA)) : GuardR (some (!decide c)) P m ops q o l σ := by
  by_cases hc : c
  · rw [decide_eq_true hc]; exact h' hc
  · rw [decide_eq_false hc]; exact h hc
set_option maxRecDepth 100000 in
theorem m_nat_digit (A u B v : List Nat) (n : Nat) (hl : (A ++ u ++ B).length < 10000000000000) (hu : ∀ z ∈ u, z < BB) (hv : ∀ z ∈ v, z < BB) (hul : u.length = n + 3) (hvl : v.length = n + 2) (hlt : val u < BB * val v) (h1 : v[n + 1] ≠ 0) :
    MCall Tryz.prog 173 [.one (.vec PIN 1 A.length u.length), aN v] (single PIN (cN (A ++ u ++ B))) (litI .u32 (val u / val v : Nat)) (single PIN (cN (A ++ pad u.length (val u % val v) ++ B))) := by
  refine mcall_of_wpAG mixed Tryz.call173 Tryz.func173 rfl Tryz.ntmps173 Tryz.results173 (by simp) (by decide) ?_ ?_ ?_
  · exact backs_sc rfl
  · exact cN_tree
  have hlen : (A ++ u ++ B).length = A.length + (n + 3) + B.length := by simp [hul]; omega
  have k := knuth_of hu hv hul hvl hlt h1
  have hU0 := hu u[n] (List.getElem_mem _)
  have hU1 := hu u[n + 1] (List.getElem_mem _)
  have hU2 := hu u[n + 2] (List.getElem_mem _)
  have hV0 := hv v[n] (List.getElem_mem _)
  have hV1 := hv v[n + 1] (List.getElem_mem _)
  simp only [BB] at hU0 hU1 hU2 hV0 hV1
  have hw : ∀ i, i < n + 3 → A.length + i < (A ++ (u ++ B)).length := fun i hi => by simp [hul]; omega
  have hg : ∀ i (hi : i < n + 3), (A ++ (u ++ B))[A.length + i]'(hw i hi) = u[i] := fun i hi => by
    rw [List.getElem_append_right (by omega)]
    simp only [Nat.add_sub_cancel_left]
    rw [List.getElem_append_left]
  have c0 := cN_at (hw n (by omega))
  have c1 := cN_at (hw (n + 1) (by omega))
  have c2 := cN_at (hw (n + 2) (by omega))
  rw [hg _ (by omega)] at c0 c1 c2
  have et : (u[n + 2] : Int) * 1000000000 + (u[n + 1] : Int) = ((u[n + 2] * BB + u[n + 1] : Nat) : Int) := by simp only [BB]; omega
  have htb : u[n + 2] * BB + u[n + 1] < 1000000000000000000 := by simp only [BB]; omega
  generalize hT : u[n + 2] * BB + u[n + 1] = top at *
  have hel0 : elemD limb v n = limb v[n] := elemD_lt (by omega)
  have hel1 : elemD limb v (n + 1) = limb v[n + 1] := elemD_lt (by omega)
  have hstart := k.start
  have hbig := k.big
  have hv1 := k.v1
  generalize hx1 : v[n + 1] = v1 at *
  generalize hx0 : v[n] = v2 at *
  generalize hy0 : u[n] = u2 at *
  generalize hy1 : u[n + 1] = u1 at *
  generalize hy2 : u[n + 2] = u0 at *
  rw [← hvl] at c2
  obtain ⟨m1, hm1⟩ : ∃ m1, m1 = n + 1 := ⟨_, rfl⟩
  rw [← hm1] at c1 hel1
  have j1 : (v.length : Int) - 1 = (m1 : Int) := by omega
  have j2 : (v.length : Int) - 2 = (n : Int) := by omega
  ((try simp only [go_sem]); (try simp (disch := omega) only [wrap_i64, wrap_u64, wrap_u32, elemD_lt]); (try simp only [go_sem]); (try simp (disch := omega) only [wrap_i64, wrap_u64, wrap_u32, elemD_lt]); (try simp only [go_sem]))
  refine regA_by 0 rfl ?_
  ((try simp only [go_sem, j1, j2, c0, c1, c2, et]); (try simp (disch := omega) only [wrap_i64, wrap_u64, wrap_u32, elemD_lt, j1, j2, c0, c1, c2, et]); (try simp only [go_sem, j1, j2, c0, c1, c2, et]); (try simp (disch := omega) only [wrap_i64, wrap_u64, wrap_u32, elemD_lt, j1, j2, c0, c1, c2, et]); (try simp only [go_sem, j1, j2, c0, c1, c2, et]))
  refine ⟨⟨by omega, by omega⟩, ⟨by omega, by omega⟩, regA_by 0 rfl ?_⟩
  have hdm : top / v1 * v1 + top % v1 = top := by rw [Nat.mul_comm]; exact Nat.div_add_mod top v1
  have hdl : top / v1 ≤ top := Nat.div_le_self _ _
  have hml : top % v1 ≤ top := Nat.mod_le _ _
  have eq1 : Int.tdiv (top : Int) (v1 : Int) = ((top / v1 : Nat) : Int) := tdivN
  have er1 : Int.tmod (top : Int) (v1 : Int) = ((top % v1 : Nat) : Int) := tmodN
  generalize top / v1 = q0 at *
  generalize top % v1 = r0 at *
  have hx1' : v[m1]'(by omega) = v1 := by subst hm1; exact hx1
  ((try simp only [go_sem, j1, hx1', eq1, er1]); (try simp (disch := omega) only [wrap_i64, wrap_u64, wrap_u32, elemD_lt, j1, hx1', eq1, er1]); (try simp only [go_sem, j1, hx1', eq1, er1]); (try simp (disch := omega) only [wrap_i64, wrap_u64, wrap_u32, elemD_lt, j1, hx1', eq1, er1]); (try simp only [go_sem, j1, hx1', eq1, er1]))
  refine ⟨⟨by omega, by omega⟩, fun _ => by omega, ⟨by omega, by omega⟩, fun _ => by omega, ?_⟩
  refine loop_inv (fun p : Nat × Nat => stL 87 [(0, .one (.vec PIN 1 A.length u.length)), (1, aN v), (5, litI .i64 v.length), (7, litI .u64 p.1), (8, litI .u64 p.2)] [(PIN, cN (A ++ (u ++ B)))])
    (fun p => p.1 * v1 + p.2 = top ∧ val u / val v ≤ p.1) (fun p => p.1) (q0, r0) ?_ ⟨hdm, hstart⟩ ?_
  · refine gstep_list rfl ?_ ?_ rfl ?_ <;> simp only [go_sem, cellsL_refs] <;> simp
  · rintro ⟨q, r⟩ ⟨hqr, hQ⟩
    simp only at hqr hQ ⊢
    have hqb : q * 1 ≤ q * v1 := Nat.mul_le_mul_left _ hv1
    by_cases hq1 : (1000000000 : Int) ≤ (q : Int)
    · have hqb2 : q ≤ top := by omega
      ((try simp only [go_sem, hq1]); (try simp (disch := omega) only [wrap_i64, wrap_u64, wrap_u32, elemD_lt, hq1]); (try simp only [go_sem, hq1]); (try simp (disch := omega) only [wrap_i64, wrap_u64, wrap_u32, elemD_lt, hq1]); (try simp only [go_sem, hq1]))
      refine regA_by 0 rfl ?_
      ((try simp only [go_sem, hq1]); (try simp (disch := omega) only [wrap_i64, wrap_u64, wrap_u32, elemD_lt, hq1]); (try simp only [go_sem, hq1]); (try simp (disch := omega) only [wrap_i64, wrap_u64, wrap_u32, elemD_lt, hq1]); (try simp only [go_sem, hq1]))
      obtain ⟨p, hp⟩ : ∃ p, p + 1 = q := ⟨q - 1, by omega⟩
      have ep : (q : Int) - 1 = (p : Int) := by omega
      have er : (r : Int) + (v1 : Int) = ((r + v1 : Nat) : Int) := by omega
      have hqr' : p * v1 + (r + v1) = top := by rw [← hqr, ← hp, Nat.add_mul]; omega
      ((try simp only [go_sem, ep, j1, hx1', er]); (try simp (disch := omega) only [wrap_i64, wrap_u64, wrap_u32, elemD_lt, ep, j1, hx1', er]); (try simp only [go_sem, ep, j1, hx1', er]); (try simp (disch := omega) only [wrap_i64, wrap_u64, wrap_u32, elemD_lt, ep, j1, hx1', er]); (try simp only [go_sem, ep, j1, hx1', er]))
      refine ⟨⟨by omega, by omega⟩, (p, r + v1), ⟨hqr', by generalize val u / val v = Q at *; simp only [BB] at hbig; omega⟩, (by show p < q; omega), ?_⟩
      refine gstep_list rfl ?_ ?_ rfl ?_ <;> ((try simp only [go_sem, cellsL_refs, ep, er]); (try simp (disch := omega) only [wrap_i64, wrap_u64, wrap_u32, elemD_lt, cellsL_refs, ep, er]); (try simp only [go_sem, cellsL_refs, ep, er]); (try simp (disch := omega) only [wrap_i64, wrap_u64, wrap_u32, elemD_lt, cellsL_refs, ep, er]); (try simp only [go_sem, cellsL_refs, ep, er])) <;> simp
    · have hqlt : q < BB := by simp only [BB]; omega
      by_cases hr1 : (r : Int) < 1000000000
      · have hprod : q * v2 ≤ 999999999 * 999999999 := Nat.mul_le_mul (by omega) (by omega)
        have eqv : (q : Int) * (v2 : Int) = ((q * v2 : Nat) : Int) := by omega
        have hx0' : v[n]'(by omega) = v2 := hx0
        ((try simp only [go_sem, hq1, hr1]); (try simp (disch := omega) only [wrap_i64, wrap_u64, wrap_u32, elemD_lt, hq1, hr1]); (try simp only [go_sem, hq1, hr1]); (try simp (disch := omega) only [wrap_i64, wrap_u64, wrap_u32, elemD_lt, hq1, hr1]); (try simp only [go_sem, hq1, hr1]))
        refine regA_by 0 rfl ?_
        ((try simp only [go_sem, hq1, hr1, j2, hx0', c0, eqv]); (try simp (disch := omega) only [wrap_i64, wrap_u64, wrap_u32, elemD_lt, hq1, hr1, j2, hx0', c0, eqv]); (try simp only [go_sem, hq1, hr1, j2, hx0', c0, eqv]); (try simp (disch := omega) only [wrap_i64, wrap_u64, wrap_u32, elemD_lt, hq1, hr1, j2, hx0', c0, eqv]); (try simp only [go_sem, hq1, hr1, j2, hx0', c0, eqv]))
        refine ⟨⟨by omega, by omega⟩, ⟨by omega, by omega⟩, CondR_if (fun hc => ?_) (fun hc => ?_)⟩
        · have hlss := k.less hqr (show r * BB + u2 < q * v2 by simp only [BB]; omega)
          have hq0 : q ≠ 0 := by rintro rfl; simp at hc; omega
          obtain ⟨p, hp⟩ : ∃ p, p + 1 = q := ⟨q - 1, by omega⟩
          have ep : (q : Int) - 1 = (p : Int) := by omega
          have er : (r : Int) + (v1 : Int) = ((r + v1 : Nat) : Int) := by omega
          have hqr' : p * v1 + (r + v1) = top := by rw [← hqr, ← hp, Nat.add_mul]; omega
          ((try simp only [go_sem, ep, j1, hx1', er]); (try simp (disch := omega) only [wrap_i64, wrap_u64, wrap_u32, elemD_lt, ep, j1, hx1', er]); (try simp only [go_sem, ep, j1, hx1', er]); (try simp (disch := omega) only [wrap_i64, wrap_u64, wrap_u32, elemD_lt, ep, j1, hx1', er]); (try simp only [go_sem, ep, j1, hx1', er]))
          refine ⟨⟨by omega, by omega⟩, (p, r + v1), ⟨hqr', by generalize val u / val v = Q at *; omega⟩, (by show p < q; omega), ?_⟩
          refine gstep_list rfl ?_ ?_ rfl ?_ <;> ((try simp only [go_sem, cellsL_refs, ep, er]); (try simp (disch := omega) only [wrap_i64, wrap_u64, wrap_u32, elemD_lt, cellsL_refs, ep, er]); (try simp only [go_sem, cellsL_refs, ep, er]); (try simp (disch := omega) only [wrap_i64, wrap_u64, wrap_u32, elemD_lt, cellsL_refs, ep, er]); (try simp only [go_sem, cellsL_refs, ep, er])) <;> simp
        · ((try simp only [go_sem]); (try simp (disch := omega) only [wrap_i64, wrap_u64, wrap_u32, elemD_lt]); (try simp only [go_sem]); (try simp (disch := omega) only [wrap_i64, wrap_u64, wrap_u32, elemD_lt]); (try simp only [go_sem]))
          have hfin := k.done hqr hqlt (fun _ => by simp only [BB]; omega)
          have hv0 := k.pos.2
          have hBu : val v < BB ^ u.length := Nat.lt_of_lt_of_le (val_lt hv) (Nat.pow_le_pow_right (by decide) (by omega))
          refine call_mutG PIN (by decide) (m_nat_less A u B v q (by rw [hlen]; omega) hu hv hqlt (by omega)) (by simp only [go_sem] <;> rfl) (by simp only [go_sem] <;> rfl) (backs_sc rfl) cN_tree cN_tree ?_
          have hcase : q = val u / val v ∨ q = val u / val v + 1 := by generalize val u / val v = Q at *; omega
          rcases hcase with hc | hc
          · have hd := digit_eq hv0 hBu
            rw [← hc] at hd ⊢
            rw [hd.1, hd.2]
            ((try simp only [go_sem]); (try simp (disch := omega) only [wrap_i64, wrap_u64, wrap_u32, elemD_lt]); (try simp only [go_sem]); (try simp (disch := omega) only [wrap_i64, wrap_u64, wrap_u32, elemD_lt]); (try simp only [go_sem]))
          · have hd := digit_succ hu hv0 hBu
            rw [← hc] at hd
            have hlb := hd.2
            have hmo := hd.1
            rw [hlb]
            have ep : (q : Int) - 1 = ((val u / val v : Nat) : Int) := by generalize val u / val v = Q at *; omega
            generalize val u / val v = Q at *
            ((try simp only [go_sem]); (try simp (disch := omega) only [wrap_i64, wrap_u64, wrap_u32, elemD_lt]); (try simp only [go_sem]); (try simp (disch := omega) only [wrap_i64, wrap_u64, wrap_u32, elemD_lt]); (try simp only [go_sem]))
            refine call_mutG PIN (by decide) (m_nat_more A (lessU u v q) B v (by simp only [List.length_append, lessU, pad_len] at hl ⊢; omega) pad_lt hv (by simp only [lessU, pad_len]; omega)) (by simp only [go_sem] <;> rfl) (by simp only [go_sem, lessU, pad_len] <;> rfl) (backs_sc rfl) cN_tree cN_tree ?_
            rw [hmo]
            ((try simp only [go_sem, ep]); (try simp (disch := omega) only [wrap_i64, wrap_u64, wrap_u32, elemD_lt, ep]); (try simp only [go_sem, ep]); (try simp (disch := omega) only [wrap_i64, wrap_u64, wrap_u32, elemD_lt, ep]); (try simp only [go_sem, ep]))
      · ((try simp only [go_sem, hq1, hr1]); (try simp (disch := omega) only [wrap_i64, wrap_u64, wrap_u32, elemD_lt, hq1, hr1]); (try simp only [go_sem, hq1, hr1]); (try simp (disch := omega) only [wrap_i64, wrap_u64, wrap_u32, elemD_lt, hq1, hr1]); (try simp only [go_sem, hq1, hr1]))
        refine regA_by 0 rfl ?_
        ((try simp only [go_sem, hq1, hr1]); (try simp (disch := omega) only [wrap_i64, wrap_u64, wrap_u32, elemD_lt, hq1, hr1]); (try simp only [go_sem, hq1, hr1]); (try simp (disch := omega) only [wrap_i64, wrap_u64, wrap_u32, elemD_lt, hq1, hr1]); (try simp only [go_sem, hq1, hr1]))
        have hfin := k.done hqr hqlt (fun h => absurd h (by simp only [BB]; omega))
        have hv0 := k.pos.2
        have hBu : val v < BB ^ u.length := Nat.lt_of_lt_of_le (val_lt hv) (Nat.pow_le_pow_right (by decide) (by omega))
        refine call_mutG PIN (by decide) (m_nat_less A u B v q (by rw [hlen]; omega) hu hv hqlt (by omega)) (by simp only [go_sem] <;> rfl) (by simp only [go_sem] <;> rfl) (backs_sc rfl) cN_tree cN_tree ?_
        have hcase : q = val u / val v ∨ q = val u / val v + 1 := by generalize val u / val v = Q at *; omega
        rcases hcase with hc | hc
        · have hd := digit_eq hv0 hBu
          rw [← hc] at hd ⊢
          rw [hd.1, hd.2]
          ((try simp only [go_sem]); (try simp (disch := omega) only [wrap_i64, wrap_u64, wrap_u32, elemD_lt]); (try simp only [go_sem]); (try simp (disch := omega) only [wrap_i64, wrap_u64, wrap_u32, elemD_lt]); (try simp only [go_sem]))
        · have hd := digit_succ hu hv0 hBu
          rw [← hc] at hd
          have hlb := hd.2
          have hmo := hd.1
          rw [hlb]
          have ep : (q : Int) - 1 = ((val u / val v : Nat) : Int) := by generalize val u / val v = Q at *; omega
          generalize val u / val v = Q at *
          ((try simp only [go_sem]); (try simp (disch := omega) only [wrap_i64, wrap_u64, wrap_u32, elemD_lt]); (try simp only [go_sem]); (try simp (disch := omega) only [wrap_i64, wrap_u64, wrap_u32, elemD_lt]); (try simp only [go_sem]))
          refine call_mutG PIN (by decide) (m_nat_more A (lessU u v q) B v (by simp only [List.length_append, lessU, pad_len] at hl ⊢; omega) pad_lt hv (by simp only [lessU, pad_len]; omega)) (by simp only [go_sem] <;> rfl) (by simp only [go_sem, lessU, pad_len] <;> rfl) (backs_sc rfl) cN_tree cN_tree ?_
          rw [hmo]
          ((try simp only [go_sem, ep]); (try simp (disch := omega) only [wrap_i64, wrap_u64, wrap_u32, elemD_lt, ep]); (try simp only [go_sem, ep]); (try simp (disch := omega) only [wrap_i64, wrap_u64, wrap_u32, elemD_lt, ep]); (try simp only [go_sem, ep]))
end Go.Proofs.YtgnfgaioeldagaaGreat
