/- At every input the call answers true and leaves its arguments as they were; no conditions. -/
import Derived.Test.YtfgejnedaijjiaaGreatDd
import Derived.Test.YtfgejnedaijjiaaGreatCc
import Derived.Test.YtfgejnedaijjiaaGreatPc
import Derived.Test.YtfgejnedaijjiaaGreatPe
set_option linter.unusedSimpArgs false
set_option linter.unusedVariables false
namespace Go.Proofs.YtfgejnedaijjiaaGreat
open Go Go.Abs
set_option maxHeartbeats 8000000
theorem exists_stop {A : Nat → Nat → Rat} {n R : Nat} {S : SX} (h : InvX A n R S) : ∃ T, runX S T ∧ (itX S T).step = none := by
  refine Classical.byContradiction fun hno => ?_
  have key : ∀ T, runX S T := fun T => by
    induction T with
    | zero => intro s hs; omega
    | succ T ih =>
      intro s hs
      rcases Nat.lt_or_ge s T with h1 | h1
      · exact ih s h1
      · obtain rfl : s = T := by omega
        exact fun he => hno ⟨s, ih, he⟩
  exact runX_lt h (key _)
theorem lQ_smQ {f : Nat → Rat} {K : Nat} : ∀ {n : Nat}, (∀ c, c < n → lQ (f c) ≤ K) → lQ (smQ f n) ≤ 1 + n * (K + 1)
  | 0, _ => by have := lQ_zero; show lQ 0 ≤ _; omega
  | n + 1, h => by
    have h1 := lQ_smQ (n := n) fun c hc => h c (by omega)
    have h2 := h n (by omega)
    have h3 := lQ_add (smQ f n) (f n)
    show lQ (smQ f n + f n) ≤ _
    rw [Nat.succ_mul]; omega
theorem lQ_moF {ls : List Fm} {N L : Nat} (hL : 1 ≤ L) (hls : ∀ f ∈ ls, Bd N L f) (i : Nat) : lQ (moF ls i) ≤ L := by
  unfold moF
  refine Nat.le_trans (lQ_int _) ?_
  rw [lN_neg]
  rcases Nat.lt_or_ge i ls.length with h | h
  · rw [List.getD_eq_getElem?_getD, List.getElem?_eq_getElem h]
    have := (hls _ (List.getElem_mem h)).2.2
    show max (lN (ls[i]).2) 1 ≤ L
    omega
  · rw [List.getD_eq_getElem?_getD, List.getElem?_eq_none h]
    show max (lN 0) 1 ≤ L
    rw [lN_zero]; omega
theorem nat_coM {ls : List Fm} {N L : Nat} (hls : ∀ f ∈ ls, Bd N L f) (i j : Nat) : (coM (ls.getD i ([], 0)).1 j).natAbs ≤ BB ^ L := by
  have h0 : ∀ z : Int, lN z ≤ L → z.natAbs ≤ BB ^ L := fun z h => Nat.le_of_lt (Nat.lt_of_lt_of_le (lt_lN z) (Nat.pow_le_pow_right (by decide) h))
  rcases Nat.lt_or_ge i ls.length with h | h
  · rw [List.getD_eq_getElem?_getD, List.getElem?_eq_getElem h]
    exact h0 _ (lN_coM (hls _ (List.getElem_mem h)) j)
  · rw [List.getD_eq_getElem?_getD, List.getElem?_eq_none h]
    exact Nat.zero_le _
theorem BB_5 {n : Nat} (hn : n ≤ 8) : (2 * ((n + 1) * BB ^ 4) + 1) ^ n < BB ^ 40 := by
  refine Nat.lt_of_le_of_lt (Nat.pow_le_pow_left (m := 2 * (9 * BB ^ 4) + 1) ?_ n) (Nat.lt_of_le_of_lt (Nat.pow_le_pow_right (by decide) hn) (by decide +kernel))
  have : (n + 1) * BB ^ 4 ≤ 9 * BB ^ 4 := Nat.mul_le_mul_right _ (by omega)
  omega
theorem aX_few {ls : List Fm} {n N : Nat} {S : SX} (hn : n ≤ 8) (hls : ∀ f ∈ ls, Bd N 4 f) (h : InvX (aOf ls) n ls.length S) {i j : Nat} (hi : i < ls.length) (hj : j < n) : lQ (S.a i j) ≤ 40 := by
  obtain ⟨h1, h2⟩ := sizeX (fun i j => coM (ls.getD i ([], 0)).1 j) (B := BB ^ 4) (by decide) (fun i j _ _ => nat_coM hls i j) h hi hj
  have h3 := BB_5 hn
  exact lQ_of (lN_of (Nat.lt_of_le_of_lt h1 h3)) (lN_of (Nat.lt_of_le_of_lt (by simpa using h2) h3))
theorem vcX_few {ls : List Fm} {n N : Nat} {S : SX} (hls : ∀ f ∈ ls, Bd N 4 f) (h : InvX (aOf ls) n ls.length S) (hm : S.mo = moF ls) {c : Nat} (hc : c < n) : ∃ b : Int, S.va (S.cl c) = (b : Rat) ∧ lN b ≤ 4 := by
  rw [h.nb c hc]
  split
  · exact ⟨0, rfl, by rw [lN_zero]; omega⟩
  · rw [hm]
    refine ⟨_, rfl, ?_⟩
    rw [lN_neg]
    rcases Nat.lt_or_ge (S.cl c - n) ls.length with h | h
    · rw [List.getD_eq_getElem?_getD, List.getElem?_eq_getElem h]
      exact (hls _ (List.getElem_mem h)).2.2
    · rw [List.getD_eq_getElem?_getD, List.getElem?_eq_none h]
      show lN 0 ≤ 4
      rw [lN_zero]; omega
theorem vaX_few {ls : List Fm} {n N : Nat} {S : SX} (hn : n ≤ 8) (hls : ∀ f ∈ ls, Bd N 4 f) (h : InvX (aOf ls) n ls.length S) (hm : S.mo = moF ls) {v : Nat} (hv : v < n + ls.length) : lQ (S.va v) ≤ 45 := by
  rcases h.sur v hv with ⟨i, hi, rfl⟩ | ⟨c, hc, rfl⟩
  · have hb : ∀ c, ∃ b : Int, c < n → S.va (S.cl c) = (b : Rat) ∧ b.natAbs ≤ BB ^ 4 := fun c => by
      by_cases hc : c < n
      · obtain ⟨b, h1, h2⟩ := vcX_few hls h hm hc
        exact ⟨b, fun _ => ⟨h1, Nat.le_of_lt (Nat.lt_of_lt_of_le (lt_lN b) (Nat.pow_le_pow_right (by decide) h2))⟩⟩
      · exact ⟨0, fun h => absurd h hc⟩
    obtain ⟨b, hb⟩ := Classical.skolem.1 hb
    obtain ⟨h1, h2⟩ := sizeV (fun i j => coM (ls.getD i ([], 0)).1 j) (B := BB ^ 4) (C := BB ^ 4) (by decide) (fun i j _ _ => nat_coM hls i j) h b hb hi
    have h3 := BB_5 hn
    have h4 : n * ((2 * ((n + 1) * BB ^ 4) + 1) ^ n * BB ^ 4) ≤ 8 * (BB ^ 40 * BB ^ 4) := Nat.mul_le_mul hn (Nat.mul_le_mul_right _ (Nat.le_of_lt h3))
    have h5 : 8 * (BB ^ 40 * BB ^ 4) < BB ^ 45 := by decide +kernel
    have h6 : BB ^ 40 < BB ^ 45 := by decide +kernel
    refine lQ_of (lN_of (by omega)) (lN_of ?_)
    show (S.va (S.rw i)).den < _
    omega
  · obtain ⟨b, h1, h2⟩ := vcX_few hls h hm hc
    rw [h1]
    have := lQ_int b
    omega
theorem bdX_few {ls : List Fm} {n N : Nat} {S : SX} (hn : n ≤ 8) (hR : ls.length ≤ 1000) (hls : ∀ f ∈ ls, Bd N 4 f) (h : InvX (aOf ls) n ls.length S) (hm : S.mo = moF ls) : BdX 400 S := by
  have en := h.en
  have eR := h.eR
  exact ⟨by omega, fun i _ => by have := lQ_moF (L := 4) (by decide) hls i; rw [hm]; omega, fun v hv => by have := vaX_few hn hls h hm (v := v) (by omega); omega, fun i j hi hj => by have := aX_few hn hls h (i := i) (j := j) (by omega) (by omega); omega, fun i hi => by have := h.rlt i (by omega); omega, fun c hc => by have := h.clt c (by omega); omega⟩
/-- What forms tell. -/
theorem s_Solve8 (a : List LL) (n : Nat) {N : Nat} (hn : n ≤ 8) (hd : a.length ≤ 1000) (hN : N ≤ 1000000) (ha : ∀ l ∈ a, BL N 4 l) : ∃ S, InvX (aOf (a.map lv)) n a.length S ∧ S.mo = moF (a.map lv) ∧ S.step = none ∧ BdX 400 S ∧
    PCall Tryz.prog 14 [.one (eL cL a), tI .i64 n] (solT S) := by
  have hI0 := madeX_inv (a.map lv) n
  obtain ⟨T, hT, hs⟩ := exists_stop hI0
  have hbl : ∀ f ∈ a.map lv, Bd N 4 f := fun f hf => by
    obtain ⟨l, hl, rfl⟩ := List.mem_map.1 hf
    exact Bd_lv (ha l hl)
  have hBd : ∀ t, BdX 400 (itX (madeX (a.map lv) n) t) := fun t => bdX_few hn (by rw [List.length_map]; exact hd) hbl (itX_inv hI0 t).1 (itX_inv hI0 t).2
  refine ⟨itX (madeX (a.map lv) n) T, ?_, (itX_inv hI0 T).2, hs, hBd T, s_Solve a n (by omega) hd hN (by decide) ha T hT hs fun t _ => hBd t⟩
  have := (itX_inv hI0 T).1
  rwa [List.length_map] at this
end Go.Proofs.YtfgejnedaijjiaaGreat
namespace Go.Proofs.YtfgejnedaijjiaaGreat
open Go Go.Abs
set_option maxHeartbeats 16000000
theorem r_IsRat_e (q : Rat) (hq : lQ q < 4000) : PCall Tryz.prog 18 [eQ q] (tB true) := by
  have := r_IsRat (decide (q.num < 0)) (dig q.num.natAbs) (dig q.den) (by have := lQ_num q; unfold lN at this; omega) (by have := lQ_den q; rw [lN_nat'] at this; omega)
  rwa [decide_eq_true (IsQ_eQ q)] at this
theorem sgn_nn {q : Rat} (h : 0 ≤ q) : (q.num.sign < 0) = False := eq_false fun h' => by
  have := Rat.num_nonneg.2 h
  have := Int.sign_neg_iff.1 h'
  omega
theorem sgn_0 : ((0 : Rat).num.sign) = 0 := rfl
theorem sgn_pos {q : Rat} (h : 0 < q) : (0 < q.num.sign) = True := eq_true (Int.sign_pos_iff.2 (numPos2.1 h))
set_option maxRecDepth 100000 in
theorem r20_Farkas (a : List LL) (g : List Rat) (n : Nat) (G : List Rat) (k : Rat) (hs : PCall Tryz.prog 30 [.one (eL cL a), tLR g] (.tup [tLR G, eQ k])) (ha : a.length < 1000000) (hl : g.length = a.length)
    (hn : n < 1000000) (hg : ∀ q ∈ g, 0 ≤ q ∧ lQ q < 4000) (hG : ∀ q ∈ G.take n, q = 0) (hk : 0 < k) (hkl : lQ k < 4000) :
    PCall Tryz.prog 15 [.one (eL cL a), tLR g, tI .i64 n] (tB true) := by
  refine pcall_of_wpA mixed Tryz.call15 Tryz.func15 rfl Tryz.ntmps15 Tryz.results15 (by simp) (by decide) ?_
  have hlI : ((g.length : Int) = (a.length : Int)) = True := eq_true (by omega)
  simp only [go_sem, hlI]
  refine loop_inv (fun i : Nat => stL 62 [(0, .one (.t (eL cL a))), (1, aLR g), (2, litI .i64 n), (6, litB false), (7, litI .i64 i)] []) (fun i => i ≤ g.length) (fun i => g.length - i) 0 ?_ (Nat.zero_le _) ?_
  · (refine gstep_list rfl ?_ ?_ ?_ ?_ <;> (try simp only [go_sem, tail_one]) <;> (try simp))
  · intro i hi
    simp only [go_sem]
    refine CondR_if (fun hlt => ?_) (fun hge => ?_)
    · have hlt' : i < g.length := by omega
      have hel : elemD cR g i = cR g[i] := elemD_lt hlt'
      obtain ⟨h0, hq⟩ := hg _ (List.getElem_mem hlt')
      have s1 := r_IsRat_e g[i] hq
      have s2 := r_SignRat_e g[i] hq
      have s3 := sgn_nn h0
      generalize g[i] = q at *
      simp only [go_sem, hel, hlt]
      (repeat (refine And.intro (by omega) ?_))
      refine call_pure s1 rfl ?_
      simp only [go_sem, hel, hlt]
      (repeat (refine And.intro (by omega) ?_))
      refine call_pure s2 rfl ?_
      simp only [go_sem, s3]
      refine ⟨i + 1, hlt', (by show g.length - (i + 1) < g.length - i; omega), ?_⟩
      (refine gstep_list rfl ?_ ?_ ?_ ?_ <;> (try simp only [go_sem, tail_one, wrap_i64 (n := (i : Int) + 1) (by omega) (by omega)]) <;> (try simp))
    · obtain rfl : i = g.length := by omega
      have s4 := r_SignRat_e k hkl
      have s5 := sgn_pos hk
      simp only [go_sem]
      ((repeat (refine regA_by 0 rfl ?_; simp only [go_sem])); refine call_pure (hs) rfl ?_; simp only [go_sem]; (repeat (refine regA_by 0 rfl ?_; simp only [go_sem])))
      refine loop_inv (fun j : Nat => stL 62 [(2, litI .i64 n), (6, litB false), (8, aLR G), (9, .one (.ptr 9 0)), (10, litI .i64 j)] [(9, (cR k).map .t)]) (fun j => j ≤ min G.length n) (fun j => min G.length n - j) 0 ?_ (Nat.zero_le _) ?_
      · (refine gstep_list rfl ?_ ?_ ?_ ?_ <;> (try simp only [go_sem, tail_one]) <;> (try simp))
      · intro j hj
        by_cases c : j < min G.length n
        · have c1 : ((j : Int) < (G.length : Int)) = True := eq_true (by omega)
          have c2 : ((j : Int) < (n : Int)) = True := eq_true (by omega)
          have hjl : j < G.length := by omega
          have hel : elemD cR G j = cR G[j] := elemD_lt hjl
          have h0 : G[j] = 0 := hG _ (List.mem_iff_getElem.2 ⟨j, by simp; omega, by simp⟩)
          have s6 := r_SignRat_e (0 : Rat) (by have := lQ_zero; omega)
          rw [h0] at hel
          simp only [go_sem, c1, c2, hel]
          (repeat (refine And.intro (by omega) ?_))
          refine call_pure s6 rfl ?_
          simp only [go_sem, sgn_0]
          refine ⟨j + 1, by omega, (by show min G.length n - (j + 1) < min G.length n - j; omega), ?_⟩
          (refine gstep_list rfl ?_ ?_ ?_ ?_ <;> (try simp only [go_sem, tail_one, wrap_i64 (n := (j : Int) + 1) (by omega) (by omega)]) <;> (try simp))
        · by_cases d : j < G.length
          · have c1 : ((j : Int) < (G.length : Int)) = True := eq_true (by omega)
            have c2 : ((j : Int) < (n : Int)) = False := eq_false (by omega)
            simp only [go_sem, c1, c2]
            ((repeat (refine regA_by 0 rfl ?_; simp only [go_sem])); refine call_pure (s4) rfl ?_; simp only [go_sem]; (repeat (refine regA_by 0 rfl ?_; simp only [go_sem])))
            simp only [go_sem, s5]
          · have c1 : ((j : Int) < (G.length : Int)) = False := eq_false (by omega)
            simp only [go_sem, c1]
            ((repeat (refine regA_by 0 rfl ?_; simp only [go_sem])); refine call_pure (s4) rfl ?_; simp only [go_sem]; (repeat (refine regA_by 0 rfl ?_; simp only [go_sem])))
            simp only [go_sem, s5]
end Go.Proofs.YtfgejnedaijjiaaGreat
namespace Go.Proofs.YtfgejnedaijjiaaGreat
open Go Go.Abs
set_option maxHeartbeats 8000000
/-! ### What the solver tells, by sums -/
theorem atQM_smQ {n : Nat} {p : Nat → Rat} (hp : ∀ v, n ≤ v → p v = 0) : ∀ (l : List Mn) (k : Nat), WM k l → atQM l p = smQ (fun j => (coM l j : Rat) * p j) n
  | [], _, _ => (smQ_zero fun j _ => by show ((0 : Int) : Rat) * p j = 0; exact Rat.zero_mul _).symm
  | m :: l, k, w => by
    have ih := atQM_smQ hp l _ w.2.2
    have h0 : coM l m.1 = 0 := coM_low w.2.2 (Nat.lt_succ_self _)
    have e : smQ (fun j => (coM (m :: l) j : Rat) * p j) n = smQ (fun j => (coM l j : Rat) * p j) n + (m.2 : Rat) * p m.1 := by
      rcases Nat.lt_or_ge m.1 n with h | h
      · rw [smQ_split h (f := fun j => (coM (m :: l) j : Rat) * p j), smQ_split h (f := fun j => (coM l j : Rat) * p j), h0]
        have e1 : (coM (m :: l) m.1 : Rat) = (m.2 : Rat) := by rw [coM, if_pos rfl]
        have e2 : smQ (fun j => if j = m.1 then 0 else (coM (m :: l) j : Rat) * p j) n = smQ (fun j => if j = m.1 then 0 else (coM l j : Rat) * p j) n := smQ_congr fun j _ => by
          by_cases e : j = m.1
          · rw [if_pos e, if_pos e]
          · rw [if_neg e, if_neg e, coM, if_neg (fun h => e h.symm)]
        rw [e1, e2]
        show _ + _ = _ + ((0 : Int) : Rat) * _ + _
        have e3 : ((0 : Int) : Rat) * p m.1 = 0 := Rat.zero_mul _
        rw [e3, Rat.add_zero]
      · rw [hp _ h, Rat.mul_zero, Rat.add_zero]
        exact smQ_congr fun j hj => by rw [coM, if_neg (by omega)]
    rw [e, ← ih]
    show (m.2 : Rat) * p m.1 + atQM l p = _
    exact Rat.add_comm _ _
theorem cS_smQ {ls : List Fm} {q : List Rat} {v : Nat} : ∀ {m : Nat}, cS ls q m v = smQ (fun i => q.getD i 0 * (coM (ls.getD i ([], 0)).1 v : Rat)) m
  | 0 => rfl
  | m + 1 => by show cS ls q m v + _ = _; rw [cS_smQ, Rat.mul_comm]; rfl
theorem kS_smQ {ls : List Fm} {q : List Rat} : ∀ {m : Nat}, kS ls q m = smQ (fun i => q.getD i 0 * ((ls.getD i ([], 0)).2 : Rat)) m
  | 0 => rfl
  | m + 1 => by show kS ls q m + _ = _; rw [kS_smQ, Rat.mul_comm]; rfl
theorem fnG_getD {n i : Nat} {g : Nat → Rat} (h : i < n) : (fnG n g).getD i 0 = g i := by
  rw [List.getD_eq_getElem?_getD, List.getElem?_eq_getElem (by rw [fnG_len]; exact h), fnG_get]; rfl
/-- The point that a list of fractions is. -/
def ptR (x : List Rat) (v : Nat) : Rat := x.getD v 0
theorem ptR_hi {x : List Rat} {n v : Nat} (hx : x.length = n) (h : n ≤ v) : ptR x v = 0 := by
  unfold ptR; rw [List.getD_eq_getElem?_getD, List.getElem?_eq_none (by omega)]; rfl
theorem ptQ_rawL (x : List Rat) : ptQ (x.map rawQ) = ptR x := by
  funext v
  unfold ptQ ptR
  rw [List.getElem?_map, List.getD_eq_getElem?_getD]
  cases x[v]? with
  | none => rfl
  | some q => exact qQ_raw q
theorem atQ_smQ {f : Fm} {n : Nat} {p : Nat → Rat} (hp : ∀ v, n ≤ v → p v = 0) (hw : WF f) : atQ f p = (f.2 : Rat) + smQ (fun j => (coM f.1 j : Rat) * p j) n := by
  unfold atQ; rw [atQM_smQ hp f.1 0 hw]
theorem lQ_outX {S : SX} {r K : Nat} (hK : 1 ≤ K) (ha : ∀ c, c < S.n → lQ (S.a r c) ≤ K) : ∀ c, c ≤ S.n → ∀ v, lQ (outX S r c v) ≤ K := by
  intro c
  induction c with
  | zero =>
    intro _ v
    show lQ (if v = S.rw r - S.n then 1 else 0) ≤ K
    have := lQ_zero; have := lQ_one
    split <;> omega
  | succ c ih =>
    intro hc v
    have h1 := ih (by omega) v
    show lQ ((if S.n ≤ S.cl c then fun v => if v = S.cl c - S.n then -(S.a r c) else outX S r c v else outX S r c) v) ≤ K
    by_cases h : S.n ≤ S.cl c
    · rw [if_pos h]
      show lQ (if v = S.cl c - S.n then -(S.a r c) else outX S r c v) ≤ K
      split
      · rw [lQ_neg]; exact ha c (by omega)
      · exact h1
    · rw [if_neg h]; exact h1
/-- A sum of forms that can't be. -/
def NoSum (ls : List Fm) (n : Nat) (g : List Rat) : Prop := (∀ q ∈ g, 0 ≤ q) ∧ (∀ v, v < n → smQ (fun i => g.getD i 0 * (coM (ls.getD i ([], 0)).1 v : Rat)) ls.length = 0) ∧ 0 < smQ (fun i => g.getD i 0 * ((ls.getD i ([], 0)).2 : Rat)) ls.length
theorem NoSum.none {ls : List Fm} {n : Nat} {g : List Rat} (h : NoSum ls n g) (hw : ∀ f ∈ ls, WF f) {p : Nat → Rat} (hp : ∀ v, n ≤ v → p v = 0) (hx : ∀ f ∈ ls, atQ f p ≤ 0) : False := by
  obtain ⟨h1, h2, h3⟩ := h
  have hg : ∀ i, 0 ≤ g.getD i 0 := fun i => by
    rw [List.getD_eq_getElem?_getD]
    cases e : g[i]? with
    | none => exact Rat.le_refl
    | some q => exact h1 q (List.mem_of_getElem? e)
  have hle : 0 ≤ smQ (fun i => g.getD i 0 * -(atQ (ls.getD i ([], 0)) p)) ls.length := smQ_nonneg fun i hi => by
    refine Rat.mul_nonneg (hg i) ?_
    rw [List.getD_eq_getElem?_getD, List.getElem?_eq_getElem hi]
    have := hx _ (List.getElem_mem hi)
    show 0 ≤ -(atQ ls[i] p)
    grind
  have e : smQ (fun i => g.getD i 0 * -(atQ (ls.getD i ([], 0)) p)) ls.length = -smQ (fun i => g.getD i 0 * ((ls.getD i ([], 0)).2 : Rat)) ls.length := by
    have e1 : smQ (fun i => g.getD i 0 * -(atQ (ls.getD i ([], 0)) p)) ls.length = smQ (fun i => (-1) * (g.getD i 0 * ((ls.getD i ([], 0)).2 : Rat)) + smQ (fun j => (-(p j)) * (g.getD i 0 * (coM (ls.getD i ([], 0)).1 j : Rat))) n) ls.length := smQ_congr fun i hi => by
      have hw' : WF (ls.getD i ([], 0)) := by
        rw [List.getD_eq_getElem?_getD, List.getElem?_eq_getElem hi]; exact hw _ (List.getElem_mem hi)
      rw [atQ_smQ hp hw']
      have e2 : smQ (fun j => (-(p j)) * (g.getD i 0 * (coM (ls.getD i ([], 0)).1 j : Rat))) n = (-(g.getD i 0)) * smQ (fun j => (coM (ls.getD i ([], 0)).1 j : Rat) * p j) n := by
        rw [← smQ_mul]; exact smQ_congr fun j _ => by grind
      rw [e2]; grind
    rw [e1, smQ_add, smQ_swap, smQ_mul, smQ_zero (f := fun j => smQ (fun i => -(p j) * (g.getD i 0 * (coM (ls.getD i ([], 0)).1 j : Rat))) ls.length) fun j hj => by rw [smQ_mul, h2 j hj]; exact Rat.mul_zero _]
    grind
  rw [e] at hle
  grind
end Go.Proofs.YtfgejnedaijjiaaGreat
namespace Go.Proofs.YtfgejnedaijjiaaGreat
open Go Go.Abs
set_option maxHeartbeats 8000000
abbrev nilT : TV := .one (.seq (some true) [])
theorem fnG_mem {α : Type} {n : Nat} {g : Nat → α} {q : α} (h : q ∈ fnG n g) : ∃ i, i < n ∧ q = g i := by
  unfold fnG at h
  obtain ⟨i, hi, rfl⟩ := List.mem_map.1 h
  exact ⟨i, List.mem_range.1 hi, rfl⟩
theorem raw_lim {g : List Rat} {K : Nat} (h : ∀ q ∈ g, lQ q ≤ K) : ∀ q ∈ g.map rawQ, q.2.1.length ≤ K ∧ q.2.2.length ≤ K := fun q hq => by
  obtain ⟨r, hr, rfl⟩ := List.mem_map.1 hq
  have := h r hr
  have h1 := lQ_num r
  have h2 := lQ_den r
  exact ⟨Nat.le_trans h1 this, Nat.le_trans h2 this⟩
theorem solve_spec (a : List LL) (n : Nat) (hn : n ≤ 8) (hd : a.length ≤ 10) (ha : ∀ l ∈ a, BL 8 4 l) (hV : ∀ l ∈ a, lastV (lv l) ≤ 101) :
    (∃ x : List Rat, x.length = n ∧ (∀ q ∈ x, lQ q ≤ 45) ∧ PCall Tryz.prog 14 [.one (eL cL a), tI .i64 n] (.tup [tLR x, nilT, tB true]) ∧ ∀ f ∈ a.map lv, atQ f (ptR x) ≤ 0) ∨
    (∃ g : List Rat, g.length = a.length ∧ (∀ q ∈ g, lQ q ≤ 40) ∧ NoSum (a.map lv) n g ∧ PCall Tryz.prog 14 [.one (eL cL a), tI .i64 n] (.tup [nilT, tLR g, tB false]) ∧
      PCall Tryz.prog 15 [.one (eL cL a), tLR g, tI .i64 n] (tB true)) := by
  obtain ⟨S, hI, hm, hst, hB, hc⟩ := s_Solve8 a n hn (by omega) (by omega) ha
  have en := hI.en
  have eR := hI.eR
  have hbl : ∀ f ∈ a.map lv, Bd 8 4 f := fun f hf => by
    obtain ⟨l, hl, rfl⟩ := List.mem_map.1 hf
    exact Bd_lv (ha l hl)
  have hwf : ∀ f ∈ a.map lv, WF f := fun f hf => by
    obtain ⟨l, hl, rfl⟩ := List.mem_map.1 hf
    exact WF_lv l
  have hll : (a.map lv).length = a.length := List.length_map ..
  unfold solT at hc
  cases hb : S.broken with
  | none =>
    rw [hb] at hc
    refine .inl ⟨fnG S.n S.va, by rw [fnG_len]; exact en, fun q hq => ?_, hc, fun f hf => ?_⟩
    · obtain ⟨i, hi, rfl⟩ := fnG_mem hq
      exact vaX_few hn hbl (hll.symm ▸ hI) hm (by omega)
    · obtain ⟨i, hi, rfl⟩ := List.mem_iff_getElem.1 hf
      have h1 := hI.sound hb (n + i) (by omega) (by omega)
      rw [hI.val i (by omega), hm, show n + i - n = i by omega] at h1
      rw [atQ_smQ (n := n) (fun v hv => ptR_hi (n := n) (by rw [fnG_len]; exact en) hv) (hwf _ hf)]
      unfold moF at h1
      have h2 : (a.map lv).getD i ([], 0) = (a.map lv)[i] := by rw [List.getD_eq_getElem?_getD, List.getElem?_eq_getElem hi]; rfl
      have h3 : smQ (fun j => ((coM (a.map lv)[i].1 j : Int) : Rat) * ptR (fnG S.n S.va) j) n = smQ (fun j => aOf (a.map lv) i j * S.va j) n := smQ_congr fun j hj => by
        unfold aOf ptR
        rw [h2, fnG_getD (by omega)]
      rw [h2] at h1
      rw [h3]
      have h4 : ((-((a.map lv)[i]).2 : Int) : Rat) = -(((a.map lv)[i]).2 : Rat) := Rat.intCast_neg _
      rw [h4] at h1
      grind
  | some r =>
    rw [hb] at hc
    obtain ⟨hr, hrn, _, _⟩ := hI.broken hb
    have hcol : S.column r = none := by
      cases hc : S.column r with
      | none => rfl
      | some c => exfalso; simp [SX.step, hb, hc] at hst
    obtain ⟨f1, f2, f3⟩ := farkasX hI hb hcol
    obtain ⟨g, hg⟩ : ∃ g, g = fnG S.R (outX S r S.n) := ⟨_, rfl⟩
    have hgl : g.length = a.length := by rw [hg, fnG_len]; exact eR
    have hgK : ∀ q ∈ g, lQ q ≤ 40 := fun q hq => by
      rw [hg] at hq
      obtain ⟨i, hi, rfl⟩ := fnG_mem hq
      exact lQ_outX (by decide) (fun c hc => aX_few hn hbl (hll.symm ▸ hI) (by omega) (by omega)) _ (Nat.le_refl _) _
    have hgi : ∀ i, i < a.length → g.getD i 0 = outX S r n i := fun i hi => by rw [hg, fnG_getD (by omega), en]
    have hns : NoSum (a.map lv) n g := by
      refine ⟨fun q hq => ?_, fun v hv => ?_, ?_⟩
      · rw [hg] at hq
        obtain ⟨i, hi, rfl⟩ := fnG_mem hq
        rw [en]; exact f1 i
      · refine Eq.trans ?_ (f2 v hv)
        rw [hll]
        exact smQ_congr fun i hi => by rw [hgi i hi]; rfl
      · have e : smQ (fun i => outX S r n i * S.mo i) a.length = -smQ (fun i => g.getD i 0 * (((a.map lv).getD i ([], 0)).2 : Rat)) (a.map lv).length := by
          have e1 : smQ (fun i => outX S r n i * S.mo i) a.length = smQ (fun i => (-1) * (g.getD i 0 * (((a.map lv).getD i ([], 0)).2 : Rat))) a.length := smQ_congr fun i hi => by
            rw [hgi i hi, hm]
            unfold moF
            have h4 : ((-((a.map lv).getD i ([], 0)).2 : Int) : Rat) = -(((a.map lv).getD i ([], 0)).2 : Rat) := Rat.intCast_neg _
            rw [h4]; grind
          rw [e1, smQ_mul, hll]; grind
        rw [e] at f3
        grind
    change PCall _ _ _ (TV.tup [nilT, tLR (fnG S.R (outX S r S.n)), tB false]) at hc
    rw [← hg] at hc
    refine .inr ⟨g, hgl, hgK, hns, hc, ?_⟩
    have hsum := f6_Sum a (g.map rawQ) (A := 10) (N := 8) (L := 4) (K := 40) (V := 101) hd (by decide) (by rw [List.length_map]; omega) (by decide) (by decide) (by decide) (by decide) (by decide) ha hV (by decide) (raw_lim hgK)
    unfold tLQ at hsum
    rw [eL_raw, List.map_map, show qQ ∘ rawQ = id from funext qQ_raw, List.map_id, List.length_map, hgl, Nat.min_self] at hsum
    have hkl := lQ_kS (ls := a.map lv) (q := g) (N := 8) (L := 4) (K := 40) (by decide) (by decide) hbl hgK a.length
    refine r20_Farkas a g n _ _ hsum (by omega) hgl (by omega) (fun q hq => ⟨hns.1 q hq, by have := hgK q hq; omega⟩) (fun q hq => ?_) ?_ (by have : a.length * (4 + 40 + 1) ≤ 10 * 45 := Nat.mul_le_mul hd (by decide); omega)
    · obtain ⟨v, hv, rfl⟩ := List.mem_iff_getElem.1 hq
      rw [List.length_take] at hv
      rw [List.getElem_take, fnL_get, cS_smQ, ← hll]
      exact hns.2.1 v (by omega)
    · rw [kS_smQ, ← hll]; exact hns.2.2
end Go.Proofs.YtfgejnedaijjiaaGreat
namespace Go.Proofs.YtfgejnedaijjiaaGreat
open Go Go.Abs
set_option maxHeartbeats 16000000
theorem lQ_smallD {q : Rat} (h1 : q.num.natAbs < 1000000000) (h2 : q.den < 1000000000) : lQ q ≤ 1 := by
  have e1 : lN q.num ≤ 1 := lN_small (by omega)
  have e2 : lN (q.den : Int) ≤ 1 := lN_small (by omega)
  unfold lQ; omega
theorem rawQ_lenD {q : Rat} {K : Nat} (h : lQ q ≤ K) : ∀ x ∈ [rawQ q], x.2.1.length ≤ K ∧ x.2.2.length ≤ K := raw_lim (g := [q]) fun r hr => by obtain rfl := List.mem_singleton.1 hr; exact h
theorem FLs.blD {a : List LL} (h : FLs a) (ho : ∀ l ∈ a, LLok l) : ∀ l ∈ a, BL 8 4 l := fun l hl => (h.1 l hl).bl (ho l hl)
theorem FLs.lastVD {a : List LL} (h : FLs a) : ∀ l ∈ a, lastV (lv l) ≤ 101 := fun l hl => lastV_le fun m hm => by
  unfold lv at hm; split at hm
  · obtain ⟨x, hx, rfl⟩ := List.mem_map.1 hm
    have := ((h.1 l hl).1 x hx).2
    show x.1.toNat < 101; omega
  · cases hm
/-- A form in the first variable. -/
abbrev lF (c k : Int) : Fm := ([(0, c)], k)
theorem form_lF {c : Int} (hc : c ≠ 0) (k : Int) : addF (scF (varF 0) c) (constF k) = lF c k := by
  unfold scF
  rw [if_neg hc]
  show (mer [(0, (1 : Int) * c)] [], (0 : Int) * c + k) = _
  rw [mer_nil_right, Int.one_mul, Int.zero_mul, Int.zero_add]
theorem form19 (c k : Int) (hc : c ≠ 0) (h1 : -1000000000 < c ∧ c < 1000000000) (h2 : -1000000000 < k ∧ k < 1000000000) : PCall Tryz.prog 20 [tI .i64 c, tI .i64 k] (eF (lF c k)) := by
  refine pcall_of_wpA mixed Tryz.call20 Tryz.func20 rfl Tryz.ntmps20 Tryz.results20 (by simp) (by decide) ?_
  have lc : lN c ≤ 1 := lN_small (by omega)
  have lk : lN k ≤ 1 := lN_small (by omega)
  have o1 := i_Of c (by omega) (by omega)
  have o2 := i_Of k (by omega) (by omega)
  have v0 : PCall Tryz.prog 28 [tI .i64 0] (eF (varF 0)) := f6_Var 0 (by decide) (by decide)
  have w0 : WF (varF 0) := WF_var 0
  have b0 : Bd 1 1 (varF 0) := Bd_single (by decide) (lN_small (by decide)) (by rw [lN_zero]; omega)
  have sc := f6_Scale_e (varF 0) c (by decide) (by decide) w0 b0 (by omega)
  have wS := WF_sc w0 c
  have bS := Bd_sc b0 c
  have co := f6_Const_e k (by omega)
  have ad := f6_Add_e (scF (varF 0) c) (constF k) (N := 2) (L := 2) (by decide) (by decide) wS (WF_const k) (bS.mono (by decide) (by omega)) ⟨Nat.zero_le _, (fun m hm => by cases hm), by show lN k ≤ 2; omega⟩
  rw [form_lF hc] at ad
  generalize scF (varF 0) c = S at *
  generalize varF 0 = V0 at *
  generalize constF k = C at *
  generalize lF c k = F at *
  simp only [go_sem]
  ((repeat (refine regA_by 0 rfl ?_; simp only [go_sem])); refine call_pure (v0) rfl ?_; simp only [go_sem]; (repeat (refine regA_by 0 rfl ?_; simp only [go_sem])); refine call_pure (o1) rfl ?_; simp only [go_sem]; (repeat (refine regA_by 0 rfl ?_; simp only [go_sem])); refine call_pure (sc) rfl ?_; simp only [go_sem]; (repeat (refine regA_by 0 rfl ?_; simp only [go_sem])); refine call_pure (o2) rfl ?_; simp only [go_sem]; (repeat (refine regA_by 0 rfl ?_; simp only [go_sem])); refine call_pure (co) rfl ?_; simp only [go_sem]; (repeat (refine regA_by 0 rfl ?_; simp only [go_sem])); refine call_pure (ad) rfl ?_; simp only [go_sem]; (repeat (refine regA_by 0 rfl ?_; simp only [go_sem])))
  exact fz_agg3 .t .t .t
theorem cL_encL (f : Fm) : cL (encL f) = cF f := by
  show [eL cM (f.1.map eMn), _, _] = _; rw [eL_eMn]; rfl
theorem eL_encL (fs : List Fm) : eL cL (fs.map encL) = eL cF fs := by
  unfold eL
  rw [List.map_map]
  exact congrArg (T.seq none) (List.map_congr_left fun f _ => cL_encL f)
theorem solve_F (fs : List Fm) (n : Nat) (hn : n ≤ 8) (hd : fs.length ≤ 10) (hw : ∀ f ∈ fs, WF f) (hb : ∀ f ∈ fs, Bd 8 4 f) (hV : ∀ f ∈ fs, lastV f ≤ 101) :
    (∃ x : List Rat, x.length = n ∧ (∀ q ∈ x, lQ q ≤ 45) ∧ PCall Tryz.prog 14 [.one (eL cF fs), tI .i64 n] (.tup [tLR x, nilT, tB true]) ∧ ∀ f ∈ fs, atQ f (ptR x) ≤ 0) ∨
    (∃ g : List Rat, g.length = fs.length ∧ (∀ q ∈ g, lQ q ≤ 40) ∧ NoSum fs n g ∧ PCall Tryz.prog 14 [.one (eL cF fs), tI .i64 n] (.tup [nilT, tLR g, tB false]) ∧
      PCall Tryz.prog 15 [.one (eL cF fs), tLR g, tI .i64 n] (tB true)) := by
  have e : (fs.map encL).map lv = fs := by
    rw [List.map_map]
    exact (List.map_congr_left (g := id) fun f hf => lv_enc (hw f hf)).trans (List.map_id _)
  have h := solve_spec (fs.map encL) n hn (by rw [List.length_map]; exact hd) (fun l hl => by obtain ⟨f, hf, rfl⟩ := List.mem_map.1 hl; exact BL_enc (hb f hf)) (fun l hl => by obtain ⟨f, hf, rfl⟩ := List.mem_map.1 hl; rw [lv_enc (hw f hf)]; exact hV f hf)
  rwa [e, eL_encL, List.length_map] at h
theorem atQ_lF (c k : Int) (x : List Rat) : atQ (lF c k) (ptR x) = (k : Rat) + (c : Rat) * x.getD 0 0 := by
  show (k : Rat) + ((c : Rat) * ptR x 0 + 0) = _; rw [Rat.add_zero]; rfl
theorem WF_lF {c : Int} (hc : c ≠ 0) (k : Int) : WF (lF c k) := WF_single hc
theorem Bd_lF {c k : Int} (h1 : -1000000000 < c ∧ c < 1000000000) (h2 : -1000000000 < k ∧ k < 1000000000) : Bd 1 1 (lF c k) := Bd_single (by decide) (lN_small (by omega)) (lN_small (by omega))
theorem tw_twoF {f g : Fm} : TVW (.one (.seq (some false) [cF f, cF g])) (.one (eL cF [f, g])) := .one .weak
theorem two_F {f g : Fm} (p : Fm → Prop) (hf : p f) (hg : p g) : ∀ h ∈ [f, g], p h := fun h hh => by
  rcases List.mem_cons.1 hh with rfl | hh
  · exact hf
  · obtain rfl := List.mem_singleton.1 hh; exact hg
/-- Two forms in the first variable. -/
theorem solve_two (c k d m : Int) (hc : c ≠ 0) (hd : d ≠ 0) (h1 : -1000000000 < c ∧ c < 1000000000) (h2 : -1000000000 < k ∧ k < 1000000000) (h3 : -1000000000 < d ∧ d < 1000000000) (h4 : -1000000000 < m ∧ m < 1000000000) :
    (∃ x : Rat, lQ x ≤ 45 ∧ PCall Tryz.prog 14 [.one (.seq (some false) [cF (lF c k), cF (lF d m)]), tI .i64 1] (.tup [tLR [x], nilT, tB true]) ∧ (k : Rat) + (c : Rat) * x ≤ 0 ∧ (m : Rat) + (d : Rat) * x ≤ 0) ∨
    (∃ p q : Rat, lQ p ≤ 40 ∧ lQ q ≤ 40 ∧ NoSum [lF c k, lF d m] 1 [p, q] ∧ PCall Tryz.prog 14 [.one (.seq (some false) [cF (lF c k), cF (lF d m)]), tI .i64 1] (.tup [nilT, tLR [p, q], tB false]) ∧
      PCall Tryz.prog 15 [.one (.seq (some false) [cF (lF c k), cF (lF d m)]), tLR [p, q], tI .i64 1] (tB true)) := by
  have hb := two_F (fun f => Bd 8 4 f) ((Bd_lF h1 h2).mono (by decide) (by decide)) ((Bd_lF h3 h4).mono (by decide) (by decide))
  have hw := two_F WF (WF_lF hc k) (WF_lF hd m)
  have hv := two_F (fun f => lastV f ≤ 101) (f := lF c k) (g := lF d m) (by show 0 + 1 ≤ 101; decide) (by show 0 + 1 ≤ 101; decide)
  rcases solve_F [lF c k, lF d m] 1 (by decide) (by show 2 ≤ 10; decide) hw hb hv with ⟨x, hx, hK, hs, h⟩ | ⟨g, hg, hK, hn, hs, hf⟩
  · match x, hx with
    | [x], _ =>
      refine .inl ⟨x, hK x (List.mem_singleton.2 rfl), hs.tw (.cons tw_twoF (.cons .refl1 .nil)), ?_, ?_⟩
      · have := h _ (List.mem_cons_self ..)
        rwa [atQ_lF] at this
      · have := h _ (List.mem_cons_of_mem _ (List.mem_singleton.2 rfl))
        rwa [atQ_lF] at this
  · match g, hg with
    | [p, q], _ => exact .inr ⟨p, q, hK p (List.mem_cons_self ..), hK q (List.mem_cons_of_mem _ (List.mem_singleton.2 rfl)), hn, hs.tw (.cons tw_twoF (.cons .refl1 .nil)), hf.tw (.cons tw_twoF (.cons .refl1 (.cons .refl1 .nil)))⟩
theorem no_two {c k d m : Int} (hc : c ≠ 0) (hd : d ≠ 0) {g : List Rat} (h : NoSum [lF c k, lF d m] 1 g) (x : Rat) (h1 : (k : Rat) + (c : Rat) * x ≤ 0) (h2 : (m : Rat) + (d : Rat) * x ≤ 0) : False := by
  refine h.none (two_F WF (WF_lF hc k) (WF_lF hd m)) (p := ptR [x]) (fun v hv => ptR_hi rfl hv) (two_F (fun f => atQ f (ptR [x]) ≤ 0) ?_ ?_)
  · rw [atQ_lF]; exact h1
  · rw [atQ_lF]; exact h2
set_option maxRecDepth 100000 in
theorem known19 : PCall Tryz.prog 12 [] (tB true) := by
  refine pcall_of_wpA mixed Tryz.call12 Tryz.func12 rfl Tryz.ntmps12 Tryz.results12 (by simp) (by decide) ?_
  obtain ⟨H, hH⟩ : ∃ q : Rat, q = Rat.divInt 1 2 := ⟨_, rfl⟩
  have lH : lQ H ≤ 1 := by rw [hH]; exact lQ_smallD (by decide) (by decide)
  have f1 := form19 1 1 (by decide) (by decide) (by decide)
  have f2 := form19 (-1) 0 (by decide) (by decide) (by decide)
  have f3 := form19 2 (-1) (by decide) (by decide) (by decide)
  have f4 := form19 (-2) 1 (by decide) (by decide) (by decide)
  rcases solve_two 1 1 (-1) 0 (by decide) (by decide) (by decide) (by decide) (by decide) (by decide) with ⟨x, _, _, h1, h2⟩ | ⟨p, q, _, _, _, hs, hf⟩
  · exfalso
    have e1 : ((1 : Int) : Rat) = 1 := rfl
    have e2 : ((-1 : Int) : Rat) = -1 := rfl
    have e3 : ((0 : Int) : Rat) = 0 := rfl
    rw [e1] at h1; rw [e2, e3] at h2
    grind
  rcases solve_two 2 (-1) (-2) 1 (by decide) (by decide) (by decide) (by decide) (by decide) (by decide) with ⟨x, lx, hs2, h1, h2⟩ | ⟨p', q', _, _, hn, _, _⟩
  rotate_left 1
  · exfalso
    refine no_two (by decide) (by decide) hn (Rat.divInt 1 2) ?_ ?_ <;> decide +kernel
  have ex : x = H := by
    have e1 : ((1 : Int) : Rat) = 1 := rfl
    have e2 : ((-1 : Int) : Rat) = -1 := rfl
    have e3 : ((2 : Int) : Rat) = 2 := rfl
    have e4 : ((-2 : Int) : Rat) = -2 := rfl
    have e5 : (2 : Rat) * H = 1 := by rw [hH]; decide +kernel
    rw [e2, e3] at h1; rw [e1, e4] at h2
    grind
  have o1 : PCall Tryz.prog 24 [tI .i64 1] (eI 1) := i_Of 1 (by decide) (by decide)
  have o2 : PCall Tryz.prog 24 [tI .i64 2] (eI 2) := i_Of 2 (by decide) (by decide)
  have ra := r_RatOf_e 1 2 (by have := lN_one; omega) (by have : lN 2 ≤ 1 := lN_small (by decide); omega)
  rw [← hH] at ra
  subst ex
  have q1 := tB_of (r_EqualRat_e x x (by omega) (by omega)) rfl
  have at1 := (s_At (encL (lF 2 (-1))) [rawQ x] (N := 1) (L := 1) (K := 1) (by decide) (by decide) (by decide) (by decide) (by decide) (BL_enc (Bd_lF (by decide) (by decide))) (by simp) (rawQ_lenD lH))
  have e0 : atQ (lF 2 (-1)) (ptQ [rawQ x]) = 0 := by
    rw [show ptQ [rawQ x] = ptR [x] from ptQ_rawL [x], atQ_lF]
    show ((-1 : Int) : Rat) + ((2 : Int) : Rat) * x = 0
    rw [hH]; decide +kernel
  rw [lv_enc (WF_lF (by decide) _), e0, gL_encL, show tLQ [rawQ x] = tLR [x] from congrArg TV.one (eL_raw [x])] at at1
  have ri := r_RatInt_0
  have q2 := tB_of (r_EqualRat_e 0 0 (by have := lQ_zero; omega) (by have := lQ_zero; omega)) rfl
  clear e0 h1 h2 hH
  generalize lF 2 (-1) = F3 at *
  generalize lF (-2) 1 = F4 at *
  generalize lF 1 1 = F1 at *
  generalize lF (-1) 0 = F2 at *
  simp only [go_sem]
  ((repeat (refine regA_by 0 rfl ?_; simp only [go_sem])); refine call_pure (f1) rfl ?_; simp only [go_sem]; (repeat (refine regA_by 0 rfl ?_; simp only [go_sem])); refine call_pure (f2) rfl ?_; simp only [go_sem]; (repeat (refine regA_by 0 rfl ?_; simp only [go_sem])); refine call_pure (hs) rfl ?_; simp only [go_sem]; (repeat (refine regA_by 0 rfl ?_; simp only [go_sem])); refine call_pure (f3) rfl ?_; simp only [go_sem]; (repeat (refine regA_by 0 rfl ?_; simp only [go_sem])); refine call_pure (f4) rfl ?_; simp only [go_sem]; (repeat (refine regA_by 0 rfl ?_; simp only [go_sem])); refine call_pure (hs2) rfl ?_; simp only [go_sem]; (repeat (refine regA_by 0 rfl ?_; simp only [go_sem])); refine call_pure (f1) rfl ?_; simp only [go_sem]; (repeat (refine regA_by 0 rfl ?_; simp only [go_sem])); refine call_pure (f2) rfl ?_; simp only [go_sem]; (repeat (refine regA_by 0 rfl ?_; simp only [go_sem])); refine call_pure (hf) rfl ?_; simp only [go_sem]; (repeat (refine regA_by 0 rfl ?_; simp only [go_sem])); refine call_pure (o1) rfl ?_; simp only [go_sem]; (repeat (refine regA_by 0 rfl ?_; simp only [go_sem])); refine call_pure (o2) rfl ?_; simp only [go_sem]; (repeat (refine regA_by 0 rfl ?_; simp only [go_sem])); refine call_pure (ra) rfl ?_; simp only [go_sem]; (repeat (refine regA_by 0 rfl ?_; simp only [go_sem])); refine call_pure (q1) rfl ?_; simp only [go_sem]; (repeat (refine regA_by 0 rfl ?_; simp only [go_sem])); refine call_pure (f3) rfl ?_; simp only [go_sem]; (repeat (refine regA_by 0 rfl ?_; simp only [go_sem])); refine call_pure (at1) rfl ?_; simp only [go_sem]; (repeat (refine regA_by 0 rfl ?_; simp only [go_sem])); refine call_pure (ri) rfl ?_; simp only [go_sem]; (repeat (refine regA_by 0 rfl ?_; simp only [go_sem])); refine call_pure (q2) rfl ?_; simp only [go_sem]; (repeat (refine regA_by 0 rfl ?_; simp only [go_sem])))
end Go.Proofs.YtfgejnedaijjiaaGreat
