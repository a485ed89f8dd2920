/- At every input the call answers true and leaves its arguments as they were; no conditions. -/
import Derived.Test.YtfgejnedaijjiaaGreatDb
set_option linter.unusedSimpArgs false
set_option linter.unusedVariables false
namespace Go.Proofs.YtfgejnedaijjiaaGreat
open Go Go.Abs
set_option maxHeartbeats 32000000
/-- The same solver with another table. -/
abbrev waS (S : SX) (a : Nat → Nat → Rat) : SX := ⟨S.n, S.R, S.rw, S.cl, a, S.va, S.mo⟩
theorem AtS.row' {H : Heap} {b : Nat} {S : SX} {a a' : Nat → Nat → Rat} (h : AtS H b (waS S a)) {r : Nat} (hr : r < S.R) (g : Nat → Rat) (ha : ∀ i, i < S.R → ∀ j, j < S.n → a' i j = if i = r then g j else a i j) :
    AtS (upd H (b + 100 + r) (some (cellsL cR (fnG S.n g)))) b (waS S a') := fun k hk cs hc => by
  refine AtS.row h (r := r) hr g k hk cs ?_
  rw [slv_at] at hc ⊢
  by_cases c1 : 100 ≤ k ∧ k < 100 + S.R
  · have c2 : 100 ≤ k ∧ k < 100 + (waS S a').R := c1
    rw [if_pos c2] at hc
    rw [if_pos ⟨c1.1, by show k < 100 + S.R; omega⟩, ← hc]
    show some (cellsL cR (fnG S.n (if k - 100 = r then g else a (k - 100)))) = some (cellsL cR (fnG S.n (a' (k - 100))))
    congr 2
    refine fnG_congr fun j hj => ?_
    rw [ha _ (by omega) j hj]
    split <;> rfl
  · have c2 : ¬ (100 ≤ k ∧ k < 100 + (waS S a').R) := c1
    rw [if_neg c2] at hc
    rw [if_neg (fun h => c1 ⟨h.1, by have := h.2; exact this⟩), ← hc]; rfl
theorem AtS.same {H : Heap} {b : Nat} {S : SX} {a a' : Nat → Nat → Rat} (h : AtS H b (waS S a)) (ha : ∀ i, i < S.R → ∀ j, j < S.n → a' i j = a i j) : AtS H b (waS S a') := fun k hk cs hc => by
  refine h k hk cs ?_
  rw [slv_at] at hc ⊢
  by_cases c1 : 100 ≤ k ∧ k < 100 + S.R
  · have c2 : 100 ≤ k ∧ k < 100 + (waS S a').R := c1
    rw [if_pos c2] at hc
    rw [if_pos ⟨c1.1, by show k < 100 + S.R; omega⟩, ← hc]
    show some (cellsL cR (fnG S.n (a (k - 100)))) = some (cellsL cR (fnG S.n (a' (k - 100))))
    congr 2
    exact fnG_congr fun j hj => (ha _ (by omega) j hj).symm
  · have c2 : ¬ (100 ≤ k ∧ k < 100 + (waS S a').R) := c1
    rw [if_neg c2] at hc
    rw [if_neg (fun h => c1 ⟨h.1, by have := h.2; exact this⟩), ← hc]; rfl
theorem famNe {i t : Nat} (h : t < 1000100) : (1000100 + i = t) = False := eq_false (by omega)
theorem famNe' {i t : Nat} (h : t < 1000100) : (t = 1000100 + i) = False := eq_false (by omega)
def tr1 (S : SX) (r c j i k : Nat) : Rat := if i = r then (if k < j ∧ k ≠ c then -(S.a r k * (S.a r c)⁻¹) else S.a r k) else S.a i k
def tr3 (S : SX) (r c m i k : Nat) : Rat := if i = r then S.trow r c k else if i < m then S.ta r c i k else S.a i k
def tr4 (S : SX) (r c m j i k : Nat) : Rat := if i = r then S.trow r c k else if i < m then S.ta r c i k else if i = m ∧ k < j then S.ta r c i k else S.a i k
theorem tr1_zero (S : SX) (r c : Nat) : tr1 S r c 0 = S.a := by
  funext i k
  unfold tr1
  by_cases e : i = r
  · rw [if_pos e, if_neg (fun h => Nat.not_lt_zero _ h.1), e]
  · rw [if_neg e]
theorem tr1_r (S : SX) (r c j k : Nat) : tr1 S r c j r k = if k < j ∧ k ≠ c then -(S.a r k * (S.a r c)⁻¹) else S.a r k := if_pos rfl
theorem tr3_r (S : SX) (r c m k : Nat) : tr3 S r c m r k = S.trow r c k := if_pos rfl
theorem tr4_r (S : SX) (r c m j k : Nat) : tr4 S r c m j r k = S.trow r c k := if_pos rfl
theorem ta_skip {S : SX} {r c i k : Nat} (h : S.a i c = 0) (hi : i ≠ r) : S.ta r c i k = S.a i k := by
  unfold SX.ta
  rw [if_neg hi]
  by_cases e : k = c
  · rw [if_pos e, e, h, Rat.zero_mul]
  · rw [if_neg e, h, Rat.zero_mul, Rat.add_zero]
theorem tr4_end {S : SX} {r c m i k : Nat} (hk : k < S.n) (hm : m ≠ r) : tr4 S r c m S.n i k = tr3 S r c (m + 1) i k := by
  unfold tr4 tr3
  by_cases e : i = r
  · rw [if_pos e, if_pos e]
  · rw [if_neg e, if_neg e]
    by_cases c1 : i < m
    · rw [if_pos c1, if_pos (by omega)]
    · rw [if_neg c1]
      by_cases c2 : i = m
      · rw [if_pos ⟨c2, hk⟩, if_pos (by omega)]
      · rw [if_neg (fun h => c2 h.1), if_neg (by omega)]
theorem tr4_zero {S : SX} {r c m : Nat} : tr4 S r c m 0 = tr3 S r c m := by
  funext i k
  unfold tr4 tr3
  by_cases e : i = r
  · rw [if_pos e, if_pos e]
  · rw [if_neg e, if_neg e]
    by_cases c1 : i < m
    · rw [if_pos c1, if_pos c1]
    · rw [if_neg c1, if_neg c1, if_neg (fun h => Nat.not_lt_zero _ h.2)]
theorem lQ_trow {S : SX} {r c k K : Nat} (h1 : lQ (S.a r c) ≤ K) (h2 : lQ (S.a r k) ≤ K) : lQ (S.trow r c k) ≤ 2 * K := by
  unfold SX.trow
  have h3 := lQ_inv (S.a r c)
  split
  · omega
  · rw [lQ_neg]; have := lQ_mul (S.a r k) (S.a r c)⁻¹; omega
theorem cI_sd {n : Nat} {g : Nat → Nat} {i : Nat} (hi : i < n) {y : Nat} : (cellsL cI1 (fnG n g)).take i ++ C.t (.lit (.int .i64 (y : Int))) :: (cellsL cI1 (fnG n g)).drop (i + 1) = cellsL cI1 (fnG n (fun v => if v = i then y else g v)) := by
  have := cG_set (f := cI1) (sz := 1) cI1_len hi (g := g) (y := y)
  rw [Nat.mul_one] at this
  rw [← this]; simp [setCs, cI1]
theorem turn_end {S : SX} {a0 a1 : Nat → Nat → Rat} {rw' cl' : Nat → Nat} (hR : S.R ≠ 0) (hn : S.n ≠ 0) (ha : ∀ i, i < S.R → ∀ j, j < S.n → a1 i j = a0 i j) :
    ∀ b, PIN ≤ b → upd (upd (lookH (slvE 1000000 (waS S a0) [])) 1000001 (some (cellsL cI1 (fnG S.R rw')))) 1000002 (some (cellsL cI1 (fnG S.n cl'))) b = xS ⟨S.n, S.R, rw', cl', a1, S.va, S.mo⟩ b := by
  have h1 : AtS (lookH (slvE 1000000 (waS S a0) [])) 1000000 (waS S a1) := AtS.same (by rw [AtS_self]; trivial) ha
  have h2 := h1.rw (S := waS S a1) hR rw'
  have h3 := h2.cl hn cl'
  refine xS_end h3 fun t ht hx => ?_
  have hdom : xS S t = none := (slv_dom (S := S) (S' := ⟨S.n, S.R, rw', cl', a1, S.va, S.mo⟩) rfl rfl t).1 (by rw [xS_def]; exact hx)
  have hne : ∀ k, xS S (PIN + k) ≠ none → t ≠ PIN + k := fun k hk e => hk (by rw [← e]; exact hdom)
  have k1 : xS S (PIN + 1) ≠ none := by
    rw [xS_def, slv_at, if_neg (by omega), if_pos rfl]; exact accH_iff.2 hR
  have k2 : xS S (PIN + 2) ≠ none := by
    rw [xS_def, slv_at, if_neg (by omega), if_neg (by omega), if_pos rfl]; exact accH_iff.2 hn
  rw [upd_at, if_neg (hne 2 k2), upd_at, if_neg (hne 1 k1)]
  have : xS (waS S a0) t = none := (slv_dom (S := S) (S' := waS S a0) rfl rfl t).2 hdom
  exact this
set_option maxRecDepth 100000 in
theorem s_turn (S : SX) (r c : Nat) {K : Nat} (hK : K ≤ 400) (hdim : S.n + S.R < 90000) (hBa : ∀ i j, i < S.R → j < S.n → lQ (S.a i j) ≤ K) (hr : r < S.R) (hc : c < S.n) :
    MCall Tryz.prog 109 [.one (.ptr PIN 0), litI .i64 r, litI .i64 c] (xS S) (.tup []) (xS ⟨S.n, S.R, fun i => if i = r then S.cl c else S.rw i, fun j => if j = c then S.rw r else S.cl j, S.ta r c, S.va, S.mo⟩) := by
  refine mcall_of_wpX mixed Tryz.call109 Tryz.func109 rfl Tryz.ntmps109 Tryz.results109 (by simp) (by decide) ?_ ?_ ?_ ?_ ?_
  · exact slv_low _
  · exact slv_dom rfl rfl
  · exact slv_cl _
  · trivial
  · have hR : S.R ≠ 0 := by omega
    have hn : S.n ≠ 0 := by omega
    have hR0 : (S.R == 0) = false := beq_false_of_ne hR
    have hn0 : (S.n == 0) = false := beq_false_of_ne hn
    have hrI : ((r : Int) < (S.R : Int)) = True := eq_true (by omega)
    have hcI : ((c : Int) < (S.n : Int)) = True := eq_true (by omega)
    have g3 : cvC 1000003 S.R = .vec 1000003 1 0 S.R := cvC_ne hR
    have a3 : ∀ {i}, i < S.R → (rowsC 1000100 3 S.n S.R).drop i = .vec (1000100 + i) 3 0 S.n :: (rowsC 1000100 3 S.n S.R).drop (i + 1) := fun h => rowsC_at h
    have kf : ∀ {a : Nat → Nat → Rat} {i : Nat}, i < S.R → ∀ e, lookH (slvE 1000000 (waS S a) e) (1000100 + i) = some (cellsL cR (fnG S.n (a i))) := fun {a i} hi e => by
      rw [show (1000100 : Nat) = 1000000 + 100 from rfl, slvKf, if_pos (show i < (waS S a).R from hi)]
    have ca : ∀ {g : Nat → Rat} {j : Nat}, j < S.n → (cellsL cR (fnG S.n g)).drop (j * 3) = (cR (g j)).map .t ++ cellsL cR ((fnG S.n g).drop (j + 1)) := fun h => cG_at cR_len h
    have ctf : ∀ {a : Nat → Nat → Rat} {i : Nat}, i < S.R → ∀ D, (slvD 1000000 (waS S a) D).contains (1000100 + i) = true := fun {a i} hi D => slv_ctf (b := 1000000) (S := waS S a) hi
    have lnL : ∀ {g : Nat → Rat}, (cellsL cR (fnG S.n g)).length = S.n * 3 := cG_len3
    have hrow := rowsC_len (b := 1000100) (sz := 3) (len := S.n) (n := S.R)
    have harc := hBa r c hr hc
    have hinv := lQ_inv (S.a r c)
    have ov := q_Over (S.a r c) (by omega)
    have xw : xS S = lookH (slvE 1000000 (waS S S.a) []) := rfl
    rw [xw]
    have kr := kf (a := S.a) hr
    have ar := a3 hr
    have cc := ca (g := S.a r) hc
    simp only [go_sem, PIN, slvLo]
    simp only [go_sem, hR, g3, ar, hrI, kr, cc, hcI, slvLo]
    (repeat (refine And.intro (by omega) ?_))
    refine call_pure ov rfl ?_
    simp only [go_sem, hR, g3, ar, hrI, kr, cc, hcI, slvLo]
    (repeat (refine And.intro (by omega) ?_))
    refine loop_inv (fun j : Nat => stL 151 [(0, .one (.ptr 1000000 0)), (1, litI .i64 r), (2, litI .i64 c), (6, .one (.ptr 6 0)), (31, .one (.vec (1000100 + r) 3 0 S.n)), (32, litI .i64 S.n), (33, litI .i64 j)]
      (slvE 1000000 (waS S (tr1 S r c j)) [(6, (cR (S.a r c)⁻¹).map .t)])) (fun j => j ≤ S.n) (fun j => S.n - j) 0 ?_ (Nat.zero_le _) ?_
    · rw [tr1_zero]
      have ct := ctf (a := S.a) hr
      (refine gstep_list rfl ?_ ?_ ?_ ?_ <;> (try simp only [go_sem, tail_one, cellsL_refs, slvLo, AtS_upd, slv_ctl, ct]) <;> (try simp))
    · intro j hj
      simp only [go_sem]
      refine CondR_if (fun hlt => ?_) (fun hge => ?_)
      · have hlt' : j < S.n := by omega
        have kj := kf (a := tr1 S r c j) hr
        have cj := ca (g := tr1 S r c j r) hlt'
        rw [tr1_r, if_neg (fun h => Nat.lt_irrefl _ h.1)] at cj
        have ct := ctf (a := tr1 S r c (j + 1)) hr
        have haj := hBa r j hr hlt'
        have hm := lQ_mul (S.a r j) (S.a r c)⁻¹
        have o1 := q_Times (S.a r j) (S.a r c)⁻¹ (by omega) (by omega)
        have o2 := q_Minus (S.a r j * (S.a r c)⁻¹) (by omega)
        have sd := cG_sd (n := S.n) (g := tr1 S r c j r) hlt' (q := -(S.a r j * (S.a r c)⁻¹))
        simp only [go_sem, kj, cj, hlt, slvLo]
        (repeat (refine And.intro (by omega) ?_))
        by_cases e : j = c
        · have e' : ((j : Int) = (c : Int)) = True := eq_true (by omega)
          have hnx : tr1 S r c (j + 1) = tr1 S r c j := by
            funext i k
            unfold tr1
            by_cases ei : i = r
            · rw [if_pos ei, if_pos ei]
              by_cases e3 : k < j ∧ k ≠ c
              · rw [if_pos e3, if_pos ⟨by omega, e3.2⟩]
              · rw [if_neg e3, if_neg (fun h => e3 ⟨by omega, h.2⟩)]
            · rw [if_neg ei, if_neg ei]
          rw [hnx] at ct
          simp only [go_sem, e']
          refine ⟨j + 1, hlt', (by show S.n - (j + 1) < S.n - j; omega), ?_⟩
          (refine gstep_list rfl ?_ ?_ ?_ ?_ <;> (try simp only [go_sem, tail_one, cellsL_refs, slvLo, AtS_upd, slv_ctl, ct, hnx, wrap_i64 (n := (j : Int) + 1) (by omega) (by omega)]) <;> (try simp))
        · have e' : ((j : Int) = (c : Int)) = False := eq_false (by omega)
          have hAt : ∀ {H : Heap}, AtS H 1000000 (waS S (tr1 S r c j)) → AtS (upd H (1000100 + r) (some (cellsL cR (fnG S.n fun v => if v = j then -(S.a r j * (S.a r c)⁻¹) else tr1 S r c j r v)))) 1000000 (waS S (tr1 S r c (j + 1))) := fun h =>
            AtS.row' (b := 1000000) h hr _ fun i _ k _ => by
              unfold tr1
              by_cases ei : i = r
              · rw [if_pos ei, if_pos ei, if_pos rfl]
                by_cases ek : k = j
                · rw [if_pos ek, if_pos ⟨by omega, by omega⟩, ek]
                · rw [if_neg ek]
                  by_cases e3 : k < j ∧ k ≠ c
                  · rw [if_pos e3, if_pos ⟨by omega, e3.2⟩]
                  · rw [if_neg e3, if_neg (fun h => e3 ⟨by omega, h.2⟩)]
              · rw [if_neg ei, if_neg ei, if_neg ei]
          simp only [go_sem, e']
          refine regA_by 0 rfl ?_
          simp only [go_sem, hR, g3, ar, hrI, kj, lnL, hlt, slvLo]
          (repeat (refine And.intro (by omega) ?_))
          ((repeat (refine regA_by 0 rfl ?_; simp only [go_sem, slvLo])); refine call_pure (o1) rfl ?_; simp only [go_sem, slvLo]; (repeat (refine regA_by 0 rfl ?_; simp only [go_sem, slvLo])); refine call_pure (o2) rfl ?_; simp only [go_sem, slvLo]; (repeat (refine regA_by 0 rfl ?_; simp only [go_sem, slvLo])))
          have hrT : (r < S.R) = True := eq_true hr
          simp only [go_sem, hR, g3, ar, hrI, kj, lnL, hlt, slvLo, famNe, famNe', hrT]
          (repeat (refine And.intro (by omega) ?_))
          refine ⟨j + 1, hlt', (by show S.n - (j + 1) < S.n - j; omega), ?_⟩
          (refine gstep_list rfl ?_ ?_ ?_ ?_ <;> (try simp only [go_sem, tail_one, cellsL_refs, slvLo, AtS_upd, slv_ctl, ct, kj, famNe, famNe', hrT, sd, wrap_i64 (n := (j : Int) + 1) (by omega) (by omega)]) <;> (try simp only [true_or, or_true, or_false, beq_self_eq_true, and_self, true_and, and_true]))
          exact hAt (by simp only [go_sem, slvLo, AtS_upd])
      · obtain rfl : j = S.n := by omega
        have kj := kf (a := tr1 S r c S.n) hr
        have ctr := fun {a} D => ctf (a := a) hr D
        have sd := cG_sd (n := S.n) (g := tr1 S r c S.n r) hc (q := (S.a r c)⁻¹)
        have hrT : (r < S.R) = True := eq_true hr
        have hAt : ∀ {H : Heap}, AtS H 1000000 (waS S (tr1 S r c S.n)) → AtS (upd H (1000100 + r) (some (cellsL cR (fnG S.n fun v => if v = c then (S.a r c)⁻¹ else tr1 S r c S.n r v)))) 1000000 (waS S (tr3 S r c 0)) := fun h =>
          AtS.row' (b := 1000000) h hr _ fun i _ k hk => by
            unfold tr3 tr1
            by_cases ei : i = r
            · rw [if_pos ei, if_pos ei, if_pos rfl]
              unfold SX.trow
              by_cases ek : k = c
              · rw [if_pos ek, if_pos ek]
              · rw [if_neg ek, if_neg ek, if_pos ⟨hk, ek⟩]
            · rw [if_neg ei, if_neg ei, if_neg ei, if_neg (Nat.not_lt_zero _)]
        simp only [go_sem]
        refine regA_by 0 rfl ?_
        simp only [go_sem, hR, g3, ar, hrI, kj, lnL, hcI, slvLo, hrT, famNe, famNe']
        (repeat (refine And.intro (by omega) ?_))
        refine loop_inv (fun m : Nat => stL 151 [(0, .one (.ptr 1000000 0)), (1, litI .i64 r), (2, litI .i64 c), (68, .one (.vec 1000003 1 0 S.R)), (69, litI .i64 S.R), (70, litI .i64 m)]
          (slvE 1000000 (waS S (tr3 S r c m)) [])) (fun m => m ≤ S.R) (fun m => S.R - m) 0 ?_ (Nat.zero_le _) ?_
        · (refine gstep_list rfl ?_ ?_ ?_ ?_ <;> (try simp only [go_sem, tail_one, cellsL_refs, slvLo, AtS_upd, slv_ctl, hR0, kj, famNe, famNe', hrT, sd]) <;> (try simp only [true_or, or_true, or_false, beq_self_eq_true, and_self, true_and, and_true]))
          exact hAt (by simp only [go_sem, slvLo, AtS_upd])
        · intro m hm
          simp only [go_sem]
          refine CondR_if (fun hlm => ?_) (fun hgm => ?_)
          · have hlm' : m < S.R := by omega
            have hmT : (m < S.R) = True := eq_true hlm'
            have am := a3 hlm'
            have km := kf (a := tr3 S r c m) hlm'
            have ctm := fun {a} D => ctf (a := a) hlm' D
            have cm := ca (g := tr3 S r c m m) hc
            simp only [go_sem, hR, am, hlm, km, cm, hcI, hmT, slvLo, famNe, famNe', hrow]
            (repeat (refine And.intro (by omega) ?_))
            by_cases em : m = r
            · have em' : ((m : Int) = (r : Int)) = True := eq_true (by omega)
              have hnx : tr3 S r c (m + 1) = tr3 S r c m := by
                funext i k
                unfold tr3
                by_cases ei : i = r
                · rw [if_pos ei, if_pos ei]
                · rw [if_neg ei, if_neg ei]
                  by_cases e3 : i < m
                  · rw [if_pos e3, if_pos (by omega)]
                  · rw [if_neg e3, if_neg (by omega)]
              simp only [go_sem, em']
              refine ⟨m + 1, hlm', (by show S.R - (m + 1) < S.R - m; omega), ?_⟩
              (refine gstep_list rfl ?_ ?_ ?_ ?_ <;> (try simp only [go_sem, tail_one, cellsL_refs, slvLo, AtS_upd, slv_ctl, hR0, hnx, wrap_i64 (n := (m : Int) + 1) (by omega) (by omega)]) <;> (try simp only [true_or, or_true, or_false, beq_self_eq_true, and_self, true_and, and_true]))
            · have em' : ((m : Int) = (r : Int)) = False := eq_false (by omega)
              have hmc : tr3 S r c m m c = S.a m c := by unfold tr3; rw [if_neg em, if_neg (Nat.lt_irrefl _)]
              rw [hmc] at cm
              have hamc := hBa m c hlm' hc
              have sg := q_Sign_e (S.a m c) (by omega)
              have h0i : (S.a m c).num.sign = 0 ↔ S.a m c = 0 := by rw [Int.sign_eq_zero_iff_zero, Rat.num_eq_zero]
              simp only [go_sem, em', hmc]
              refine call_pure sg rfl ?_
              by_cases ez : S.a m c = 0
              · have ez' : ((S.a m c).num.sign = 0) = True := eq_true (h0i.2 ez)
                have hSame : ∀ {H : Heap}, AtS H 1000000 (waS S (tr3 S r c m)) → AtS H 1000000 (waS S (tr3 S r c (m + 1))) := fun h =>
                  AtS.same h fun i _ k _ => by
                    unfold tr3
                    by_cases ei : i = r
                    · rw [if_pos ei, if_pos ei]
                    · rw [if_neg ei, if_neg ei]
                      by_cases e3 : i < m
                      · rw [if_pos e3, if_pos (by omega)]
                      · rw [if_neg e3]
                        by_cases e4 : i = m
                        · rw [if_pos (by omega), ta_skip (by rw [e4]; exact ez) ei]
                        · rw [if_neg (by omega)]
                simp only [go_sem, ez']
                refine ⟨m + 1, hlm', (by show S.R - (m + 1) < S.R - m; omega), ?_⟩
                (refine gstep_list rfl ?_ ?_ ?_ ?_ <;> (try simp only [go_sem, tail_one, cellsL_refs, slvLo, AtS_upd, slv_ctl, hR0, famNe, famNe', wrap_i64 (n := (m : Int) + 1) (by omega) (by omega)]) <;> (try simp only [true_or, or_true, or_false, beq_self_eq_true, and_self, true_and, and_true]))
                exact hSame (by simp only [go_sem, slvLo, AtS_upd])
              · have ez' : ((S.a m c).num.sign = 0) = False := eq_false (fun h => ez (h0i.1 h))
                have kr3 := kf (a := tr3 S r c m) hr
                have hrT : (r < S.R) = True := eq_true hr
                simp only [go_sem, ez', hR, g3, ar, hrI, kr3, slvLo, hrT, famNe, famNe']
                (repeat (refine And.intro (by omega) ?_))
                refine loop_inv (fun j : Nat => stL 151 [(0, .one (.ptr 1000000 0)), (1, litI .i64 r), (2, litI .i64 c), (10, .one (.vec (1000100 + m) 3 0 S.n)), (11, .one (.ptr 11 0)), (68, .one (.vec 1000003 1 0 S.R)), (69, litI .i64 S.R), (70, litI .i64 m), (93, .one (.vec (1000100 + r) 3 0 S.n)), (94, litI .i64 S.n), (95, litI .i64 j)]
                  (slvE 1000000 (waS S (tr4 S r c m j)) [(11, (cR (S.a m c)).map .t)])) (fun j => j ≤ S.n) (fun j => S.n - j) 0 ?_ (Nat.zero_le _) ?_
                · rw [tr4_zero]
                  (refine gstep_list rfl ?_ ?_ ?_ ?_ <;> (try simp only [go_sem, tail_one, cellsL_refs, slvLo, AtS_upd, slv_ctl, hR0, ctm, ctr, famNe, famNe']) <;> (try simp only [true_or, or_true, or_false, beq_self_eq_true, and_self, true_and, and_true]))
                · intro j hj
                  simp only [go_sem]
                  refine CondR_if (fun hlj => ?_) (fun hgj => ?_)
                  · have hlj' : j < S.n := by omega
                    have kj := kf (a := tr4 S r c m j) hr
                    have kmj := kf (a := tr4 S r c m j) hlm'
                    have cj := ca (g := tr4 S r c m j r) hlj'
                    rw [tr4_r] at cj
                    have cmj := ca (g := tr4 S r c m j m) hlj'
                    have hmj : tr4 S r c m j m j = S.a m j := by unfold tr4; rw [if_neg em, if_neg (Nat.lt_irrefl _), if_neg (fun h => Nat.lt_irrefl _ h.2)]
                    rw [hmj] at cmj
                    have lx := lQ_trow harc (hBa r j hr hlj')
                    have lf := lQ_mul (S.a m c) (S.trow r c j)
                    have lmj := hBa m j hlm' hlj'
                    have o1 := q_Times (S.a m c) (S.trow r c j) (by omega) (by omega)
                    have sx := q_Sign_e (S.trow r c j) (by omega)
                    have h0x : (S.trow r c j).num.sign = 0 ↔ S.trow r c j = 0 := by rw [Int.sign_eq_zero_iff_zero, Rat.num_eq_zero]
                    have hAt : ∀ {H : Heap}, AtS H 1000000 (waS S (tr4 S r c m j)) → AtS (upd H (1000100 + m) (some (cellsL cR (fnG S.n fun v => if v = j then S.ta r c m j else tr4 S r c m j m v)))) 1000000 (waS S (tr4 S r c m (j + 1))) := fun h =>
                      AtS.row' (b := 1000000) h hlm' _ fun i _ k _ => by
                        unfold tr4
                        by_cases ei : i = r
                        · rw [if_pos ei, if_neg (by omega), if_pos ei]
                        · rw [if_neg ei, if_neg ei]
                          by_cases e3 : i < m
                          · rw [if_pos e3, if_neg (by omega), if_pos e3]
                          · rw [if_neg e3, if_neg e3]
                            by_cases e4 : i = m
                            · rw [if_pos e4]
                              by_cases ek : k = j
                              · rw [if_pos ⟨e4, by omega⟩, if_pos ek, e4, ek]
                              · rw [if_neg ek, if_neg em, if_neg (Nat.lt_irrefl _)]
                                by_cases e5 : k < j
                                · rw [if_pos ⟨e4, by omega⟩, if_pos ⟨rfl, e5⟩, e4]
                                · rw [if_neg (fun h => by omega), if_neg (fun h => e5 h.2), e4]
                            · rw [if_neg (fun h => e4 h.1), if_neg e4, if_neg (fun h => e4 h.1)]
                    have htaC : j = c → S.a m c * S.trow r c j = S.ta r c m j := fun e => by unfold SX.ta; rw [if_neg em, if_pos e, e]
                    have htaN : j ≠ c → S.a m j + S.a m c * S.trow r c j = S.ta r c m j := fun e => by unfold SX.ta; rw [if_neg em, if_neg e]
                    simp only [go_sem, kj, cj, hlj, slvLo, hrT, famNe, famNe']
                    (repeat (refine And.intro (by omega) ?_))
                    by_cases ec : j = c
                    · have ec' : ((j : Int) = (c : Int)) = True := eq_true (by omega)
                      rw [htaC ec] at o1
                      have sd := cG_sd (n := S.n) (g := tr4 S r c m j m) hlj' (q := S.ta r c m j)
                      simp only [go_sem, ec', slvLo]
                      refine call_pure o1 rfl ?_
                      simp only [go_sem, kmj, lnL, hlj, slvLo, hmT, famNe, famNe']
                      (repeat (refine And.intro (by omega) ?_))
                      refine ⟨j + 1, hlj', (by show S.n - (j + 1) < S.n - j; omega), ?_⟩
                      (refine gstep_list rfl ?_ ?_ ?_ ?_ <;> (try simp only [go_sem, tail_one, cellsL_refs, slvLo, AtS_upd, slv_ctl, hR0, ctm, ctr, famNe, famNe', hmT, hrT, sd, wrap_i64 (n := (j : Int) + 1) (by omega) (by omega)]) <;> (try simp only [true_or, or_true, or_false, beq_self_eq_true, and_self, true_and, and_true]))
                      exact hAt (by simp only [go_sem, slvLo, AtS_upd])
                    · have ec' : ((j : Int) = (c : Int)) = False := eq_false (by omega)
                      simp only [go_sem, ec', slvLo]
                      refine call_pure sx rfl ?_
                      by_cases ex : S.trow r c j = 0
                      · have ex' : ((S.trow r c j).num.sign = 0) = True := eq_true (h0x.2 ex)
                        have hSame : ∀ {H : Heap}, AtS H 1000000 (waS S (tr4 S r c m j)) → AtS H 1000000 (waS S (tr4 S r c m (j + 1))) := fun h =>
                          AtS.same h fun i _ k _ => by
                            unfold tr4
                            by_cases ei : i = r
                            · rw [if_pos ei, if_pos ei]
                            · rw [if_neg ei, if_neg ei]
                              by_cases e3 : i < m
                              · rw [if_pos e3, if_pos e3]
                              · rw [if_neg e3, if_neg e3]
                                by_cases e4 : i = m ∧ k < j
                                · rw [if_pos e4, if_pos ⟨e4.1, by omega⟩]
                                · rw [if_neg e4]
                                  by_cases e5 : i = m ∧ k = j
                                  · rw [if_pos ⟨e5.1, by omega⟩, e5.1, e5.2, ← htaN ec, ex, Rat.mul_zero, Rat.add_zero]
                                  · rw [if_neg (fun h => by omega)]
                        simp only [go_sem, ex']
                        refine ⟨j + 1, hlj', (by show S.n - (j + 1) < S.n - j; omega), ?_⟩
                        (refine gstep_list rfl ?_ ?_ ?_ ?_ <;> (try simp only [go_sem, tail_one, cellsL_refs, slvLo, AtS_upd, slv_ctl, hR0, ctm, ctr, famNe, famNe', hmT, hrT, wrap_i64 (n := (j : Int) + 1) (by omega) (by omega)]) <;> (try simp only [true_or, or_true, or_false, beq_self_eq_true, and_self, true_and, and_true]))
                        exact hSame (by simp only [go_sem, slvLo, AtS_upd])
                      · have ex' : ((S.trow r c j).num.sign = 0) = False := eq_false (fun h => ex (h0x.1 h))
                        have o2 := q_Plus (S.a m j) (S.a m c * S.trow r c j) (by omega) (by omega)
                        rw [htaN ec] at o2
                        have sd := cG_sd (n := S.n) (g := tr4 S r c m j m) hlj' (q := S.ta r c m j)
                        simp only [go_sem, ex']
                        refine regA_by 0 rfl ?_
                        simp only [go_sem, kmj, cmj, lnL, hlj, slvLo, hmT, famNe, famNe']
                        (repeat (refine And.intro (by omega) ?_))
                        ((repeat (refine regA_by 0 rfl ?_; simp only [go_sem, slvLo, famNe, famNe'])); refine call_pure (o1) rfl ?_; simp only [go_sem, slvLo, famNe, famNe']; (repeat (refine regA_by 0 rfl ?_; simp only [go_sem, slvLo, famNe, famNe'])); refine call_pure (o2) rfl ?_; simp only [go_sem, slvLo, famNe, famNe']; (repeat (refine regA_by 0 rfl ?_; simp only [go_sem, slvLo, famNe, famNe'])))
                        simp only [go_sem, kmj, lnL, hlj, slvLo, hmT, famNe, famNe']
                        (repeat (refine And.intro (by omega) ?_))
                        refine ⟨j + 1, hlj', (by show S.n - (j + 1) < S.n - j; omega), ?_⟩
                        (refine gstep_list rfl ?_ ?_ ?_ ?_ <;> (try simp only [go_sem, tail_one, cellsL_refs, slvLo, AtS_upd, slv_ctl, hR0, ctm, ctr, famNe, famNe', hmT, hrT, sd, wrap_i64 (n := (j : Int) + 1) (by omega) (by omega)]) <;> (try simp only [true_or, or_true, or_false, beq_self_eq_true, and_self, true_and, and_true]))
                        exact hAt (by simp only [go_sem, slvLo, AtS_upd])
                  · obtain rfl : j = S.n := by omega
                    have hSame : ∀ {H : Heap}, AtS H 1000000 (waS S (tr4 S r c m S.n)) → AtS H 1000000 (waS S (tr3 S r c (m + 1))) := fun h =>
                      AtS.same h fun i _ k hk => (tr4_end hk em).symm
                    simp only [go_sem]
                    refine ⟨m + 1, hlm', (by show S.R - (m + 1) < S.R - m; omega), ?_⟩
                    (refine gstep_list rfl ?_ ?_ ?_ ?_ <;> (try simp only [go_sem, tail_one, cellsL_refs, slvLo, AtS_upd, slv_ctl, hR0, famNe, famNe', wrap_i64 (n := (m : Int) + 1) (by omega) (by omega)]) <;> (try simp only [true_or, or_true, or_false, beq_self_eq_true, and_self, true_and, and_true]))
                    exact hSame (by simp only [go_sem, slvLo, AtS_upd])
          · obtain rfl : m = S.R := by omega
            have g1 := accG_ne (b := 1000001) (sz := 1) (g := S.rw) hR
            have g2 := accG_ne (b := 1000002) (sz := 1) (g := S.cl) hn
            have i1 := cG_at (f := cI1) (sz := 1) (g := S.rw) (n := S.R) (i := r) cI1_len hr
            have i2 := cG_at (f := cI1) (sz := 1) (g := S.cl) (n := S.n) (i := c) cI1_len hc
            rw [Nat.mul_one] at i1 i2
            have e1 : ∀ {g : Nat → Nat}, (cellsL cI1 (fnG S.R g)).length = S.R := by intro g; rw [cG_len cI1_len, Nat.mul_one]
            have e2 : ∀ {g : Nat → Nat}, (cellsL cI1 (fnG S.n g)).length = S.n := by intro g; rw [cG_len cI1_len, Nat.mul_one]
            have s1 := cI_sd (g := S.rw) hr (y := S.cl c)
            have s2 := cI_sd (g := S.cl) hc (y := S.rw r)
            simp only [go_sem]
            refine regA_by 0 rfl ?_
            simp only [go_sem, hR, hn, g1, g2, i1, i2, hrI, hcI, slvLo]
            (repeat (refine And.intro (by omega) ?_))
            simp only [go_sem, hR, hn, g1, g2, i1, i2, e1, e2, hrI, hcI, slvLo, s1, s2]
            (repeat (refine And.intro (by omega) ?_))
            exact xret0 (.inl rfl) (turn_end hR hn fun i hi k _ => by
              unfold tr3
              by_cases ei : i = r
              · rw [if_pos ei]; unfold SX.ta; rw [if_pos ei]
              · rw [if_neg ei, if_pos hi])
end Go.Proofs.YtfgejnedaijjiaaGreat
namespace Go.Proofs.YtfgejnedaijjiaaGreat
open Go Go.Abs
set_option maxHeartbeats 32000000
/-- The same solver with other values. -/
abbrev wvS (S : SX) (va : Nat → Rat) : SX := ⟨S.n, S.R, S.rw, S.cl, S.a, va, S.mo⟩
theorem AtS.va' {H : Heap} {b : Nat} {S : SX} {va : Nat → Rat} (h : AtS H b (wvS S va)) (va' : Nat → Rat) : AtS (upd H (b + 5) (some (cellsL cR (fnG (S.n + S.R) va')))) b (wvS S va') := AtS.va h va'
theorem xS_5 {S : SX} (h : xS S 1000005 = none) : False := by
  have : xS S (PIN + 5) = none := h
  rw [xS_def, slv_at, if_neg (by omega), if_neg (by omega), if_neg (by omega), if_neg (by omega), if_neg (by omega), if_neg (by omega), if_pos rfl] at this
  cases this
theorem slv_or_end {S' S0 : SX} (hn : S'.n = S0.n) (hR : S'.R = S0.R) {H : Heap} (hH : ∀ b, PIN ≤ b → H b ≠ none → xS S0 b ≠ none) : ∀ b, PIN ≤ b → (lookH (slvL PIN S') b).or (H b) = xS S' b := fun b hb => by
  rw [xS_def]
  cases hx : lookH (slvL PIN S') b with
  | some cs => rfl
  | none =>
    show H b = none
    refine Classical.byContradiction fun hne => hH b hb hne ?_
    exact (slv_dom hn hR b).1 (by rw [xS_def]; exact hx)
set_option maxRecDepth 100000 in
theorem s_lowers {A : Nat → Nat → Rat} {n R : Nat} (S : SX) (hI : InvX A n R S) (r c : Nat) {K : Nat} (hK : K ≤ 400) (hB : BdX K S) (hr : r < S.R) (hc : c < S.n) (hrn : S.n ≤ S.rw r) :
    MCall Tryz.prog 57 [.one (.ptr PIN 0), litI .i64 r, litI .i64 c] (xS S) (.tup []) (xS (S.piv r c)) := by
  have hdim := hB.dim
  refine mcall_of_wpX mixed Tryz.call57 Tryz.func57 rfl Tryz.ntmps57 Tryz.results57 (by simp) (by decide) ?_ ?_ ?_ ?_ ?_
  · exact slv_low _
  · exact slv_dom rfl rfl
  · exact slv_cl _
  · trivial
  · have hR : S.R ≠ 0 := by omega
    have hn : S.n ≠ 0 := by omega
    have hR0 : (S.R == 0) = false := beq_false_of_ne hR
    have hn0 : (S.n == 0) = false := beq_false_of_ne hn
    have hrI : ((r : Int) < (S.R : Int)) = True := eq_true (by omega)
    have hcI : ((c : Int) < (S.n : Int)) = True := eq_true (by omega)
    have g1 := accG_ne (b := 1000001) (sz := 1) (g := S.rw) hR
    have g2 := accG_ne (b := 1000002) (sz := 1) (g := S.cl) hn
    have g4 := accG_ne (b := 1000004) (sz := 3) (g := S.mo) hR
    have g3 : cvC 1000003 S.R = .vec 1000003 1 0 S.R := cvC_ne hR
    have i1 : ∀ {i}, i < S.R → (cellsL cI1 (fnG S.R S.rw)).drop i = (cI1 (S.rw i)).map .t ++ cellsL cI1 ((fnG S.R S.rw).drop (i + 1)) := fun {i} hi => by
      have := cG_at (f := cI1) (sz := 1) (g := S.rw) (n := S.R) (i := i) cI1_len hi; rwa [Nat.mul_one] at this
    have i2 := cG_at (f := cI1) (sz := 1) (g := S.cl) (n := S.n) (i := c) cI1_len hc
    rw [Nat.mul_one] at i2
    have e1 : ∀ {g : Nat → Nat}, (cellsL cI1 (fnG S.R g)).length = S.R := by intro g; rw [cG_len cI1_len, Nat.mul_one]
    have e2 : ∀ {g : Nat → Nat}, (cellsL cI1 (fnG S.n g)).length = S.n := by intro g; rw [cG_len cI1_len, Nat.mul_one]
    have a3 : ∀ {i}, i < S.R → (rowsC 1000100 3 S.n S.R).drop i = .vec (1000100 + i) 3 0 S.n :: (rowsC 1000100 3 S.n S.R).drop (i + 1) := fun h => rowsC_at h
    have hrow := rowsC_len (b := 1000100) (sz := 3) (len := S.n) (n := S.R)
    have kf : ∀ {va : Nat → Rat} {i : Nat}, i < S.R → ∀ e, lookH (slvE 1000000 (wvS S va) e) (1000100 + i) = some (cellsL cR (fnG S.n (S.a i))) := fun {va i} hi e => by
      rw [show (1000100 : Nat) = 1000000 + 100 from rfl, slvKf, if_pos (show i < (wvS S va).R from hi)]
    have ca : ∀ {g : Nat → Rat} {j : Nat}, j < S.n → (cellsL cR (fnG S.n g)).drop (j * 3) = (cR (g j)).map .t ++ cellsL cR ((fnG S.n g).drop (j + 1)) := fun h => cG_at cR_len h
    have cv : ∀ {g : Nat → Rat} {j : Nat}, j < S.n + S.R → (cellsL cR (fnG (S.n + S.R) g)).drop (j * 3) = (cR (g j)).map .t ++ cellsL cR ((fnG (S.n + S.R) g).drop (j + 1)) := fun h => cG_at cR_len h
    have cm : ∀ {g : Nat → Rat} {j : Nat}, j < S.R → (cellsL cR (fnG S.R g)).drop (j * 3) = (cR (g j)).map .t ++ cellsL cR ((fnG S.R g).drop (j + 1)) := fun h => cG_at cR_len h
    have lnN : ∀ {g : Nat → Rat}, (cellsL cR (fnG S.n g)).length = S.n * 3 := cG_len3
    have lnR : ∀ {g : Nat → Rat}, (cellsL cR (fnG S.R g)).length = S.R * 3 := cG_len3
    have lnV : ∀ {g : Nat → Rat}, (cellsL cR (fnG (S.n + S.R) g)).length = (S.n + S.R) * 3 := cG_len3
    have hxv := hB.rw r hr
    have hyv := hB.cl c hc
    have harc := hB.a r c hr hc
    have hov := hB.ov hxv
    have hinv := lQ_inv (S.a r c)
    have lby : lQ (S.by' r c) ≤ 3 * K + 1 := by
      unfold SX.by'
      have := lQ_mul (-(S.ov (S.rw r))) (S.a r c)⁻¹
      rw [lQ_neg] at this; omega
    have rd := fun {H} hH => rd_over S (S.rw r) (K := K) (by omega) hB hxv 1000000 (H := H) hH
    have o1 := q_Minus (S.ov (S.rw r)) (by omega)
    have o2 := q_Over (S.a r c) (by omega)
    have o3 := q_Times (-(S.ov (S.rw r))) (S.a r c)⁻¹ (by rw [lQ_neg]; omega) (by omega)
    have eby : -(S.ov (S.rw r)) * (S.a r c)⁻¹ = S.by' r c := rfl
    rw [eby] at o3
    have xw : xS S = lookH (slvE 1000000 (wvS S S.va) []) := rfl
    rw [xw]
    have ir := i1 hr
    have ar := a3 hr
    have kr := kf (va := S.va) hr
    have cr := ca (g := S.a r) hc
    have hrT : (r < S.R) = True := eq_true hr
    simp only [go_sem, PIN]
    refine regA_by 0 rfl ?_
    simp only [go_sem, hR, hn, g1, g2, ir, i2, hrI, hcI, slvLo]
    (repeat (refine And.intro (by omega) ?_))
    refine regA_by 3 rfl ?_
    simp only [go_sem]
    refine call_rd (rd (by simp only [go_sem])) ?_
    simp only [go_sem]
    refine call_pure o1 rfl ?_
    simp only [go_sem, hR, g3, ar, hrI, kr, cr, hcI, slvLo, hrT, hrow, famNe, famNe']
    (repeat (refine And.intro (by omega) ?_))
    refine call_pure o2 rfl ?_
    simp only [go_sem]
    refine call_pure o3 rfl ?_
    simp only [go_sem, slvLo]
    obtain ⟨y, hy⟩ : ∃ y, y = S.cl c := ⟨_, rfl⟩
    rw [← hy] at hyv
    have hyI : ((y : Int) < ((S.n + S.R : Nat) : Int)) = True := eq_true (by omega)
    have hyI' : ((y : Int) < (S.n : Int) + (S.R : Int)) = True := eq_true (by omega)
    have cvy := cv (g := S.va) hyv
    have lvy := hB.va y hyv
    have o4 := q_Plus (S.va y) (S.by' r c) (by omega) (by omega)
    have sd0 := cG_sd (n := S.n + S.R) (g := S.va) hyv (q := S.va y + S.by' r c)
    have h0 : (fun v => if v = y then S.va y + S.by' r c else S.va v) = S.vrow r c 0 := by
      funext v
      show _ = if v = S.cl c then S.va v + S.by' r c else S.va v
      rw [hy]
      by_cases e : v = S.cl c
      · rw [if_pos e, if_pos e, e]
      · rw [if_neg e, if_neg e]
    rw [h0] at sd0
    rw [← hy]
    refine regA_by 0 rfl ?_
    simp only [go_sem, slvLo, hyI, hyI', cvy, lnV]
    (repeat (refine And.intro (by omega) ?_))
    ((repeat (refine regA_by 0 rfl ?_; simp only [go_sem, slvLo])); refine call_pure (o4) rfl ?_; simp only [go_sem, slvLo]; (repeat (refine regA_by 0 rfl ?_; simp only [go_sem, slvLo])))
    simp only [go_sem, slvLo, hyI, hyI', cvy, lnV]
    refine ⟨by omega, by omega, ?_⟩
    have hen := hI.en
    have heR := hI.eR
    have hbnd : ∀ i, i < S.R → i ≠ r → S.vrow r c i (S.rw i) = S.va (S.rw i) := fun i hi hir => by
      have := (vrow_at hI (r := r) (c := c) (by omega) (by omega) i (by omega)).2.2.1 i (by omega) hir
      rw [if_neg (Nat.lt_irrefl _)] at this; exact this
    refine loop_inv (fun i : Nat => stL 125 [(0, .one (.ptr 1000000 0)), (1, litI .i64 r), (2, litI .i64 c), (6, litI .i64 (S.rw r)), (8, .one (.ptr 8 0)), (63, .one (.vec 1000001 1 0 S.R)), (64, litI .i64 S.R), (65, litI .i64 i)]
      (slvE 1000000 (wvS S (S.vrow r c i)) [(8, (cR (S.by' r c)).map .t)])) (fun i => i ≤ S.R) (fun i => S.R - i) 0 ?_ (Nat.zero_le _) ?_
    · (refine gstep_list rfl ?_ ?_ ?_ ?_ <;> (try simp only [go_sem, tail_one, cellsL_refs, slvLo, AtS_upd, slv_ctl, hR0, hR, g1, sd0]) <;> (try simp only [true_or, or_true, or_false, beq_self_eq_true, and_self, true_and, and_true]))
      exact AtS.va' (b := 1000000) (va := S.va) (by simp only [go_sem, slvLo, AtS_upd]) _
    · intro i hi
      simp only [go_sem]
      refine CondR_if (fun hlt => ?_) (fun hge => ?_)
      · have hlt' : i < S.R := by omega
        have ii := i1 hlt'
        have ai := a3 hlt'
        have hiT : (i < S.R) = True := eq_true hlt'
        simp only [go_sem, hR, g1, ii, hlt, slvLo]
        (repeat (refine And.intro (by omega) ?_))
        by_cases e : i = r
        · have e' : ((i : Int) = (r : Int)) = True := eq_true (by omega)
          have hnx : S.vrow r c (i + 1) = S.vrow r c i := by show (if i = r then _ else _) = _; rw [if_pos e]
          simp only [go_sem, e']
          refine ⟨i + 1, hlt', (by show S.R - (i + 1) < S.R - i; omega), ?_⟩
          (refine gstep_list rfl ?_ ?_ ?_ ?_ <;> (try simp only [go_sem, tail_one, cellsL_refs, slvLo, AtS_upd, slv_ctl, hR0, hnx, wrap_i64 (n := (i : Int) + 1) (by omega) (by omega)]) <;> (try simp only [true_or, or_true, or_false, beq_self_eq_true, and_self, true_and, and_true]))
        · have e' : ((i : Int) = (r : Int)) = False := eq_false (by omega)
          have hnx : S.vrow r c (i + 1) = fun v => if v = S.rw i then S.vrow r c i v + S.a i c * S.by' r c else S.vrow r c i v := by show (if i = r then _ else _) = _; rw [if_neg e]
          have hvi := hB.rw i hlt'
          obtain ⟨v, hv⟩ : ∃ v, v = S.rw i := ⟨_, rfl⟩
          have hval := hbnd i hlt' e
          rw [← hv] at hvi hval hnx
          have hvI : ((v : Int) < (S.n : Int) + (S.R : Int)) = True := eq_true (by omega)
          have hv0 : ((0 : Int) ≤ (v : Int)) = True := eq_true (by omega)
          have kri := kf (va := S.vrow r c i) hlt'
          have cri := ca (g := S.a i) hc
          have cvi := cv (g := S.vrow r c i) hvi
          rw [hval] at cvi
          have la := hB.a i c hlt' hc
          have lv := hB.va v hvi
          have lm := lQ_mul (S.a i c) (S.by' r c)
          have o5 := q_Times (S.a i c) (S.by' r c) (by omega) (by omega)
          have o6 := q_Plus (S.va v) (S.a i c * S.by' r c) (by omega) (by omega)
          have sd := cG_sd (n := S.n + S.R) (g := S.vrow r c i) hvi (q := S.va v + S.a i c * S.by' r c)
          have hfn : (fun u => if u = v then S.va v + S.a i c * S.by' r c else S.vrow r c i u) = S.vrow r c (i + 1) := by
            rw [hnx]; funext u
            by_cases eu : u = v
            · rw [if_pos eu, if_pos eu, eu, hval]
            · rw [if_neg eu, if_neg eu]
          rw [hfn] at sd
          simp only [go_sem, e']
          rw [← hv]
          refine regA_by 0 rfl ?_
          simp only [go_sem, hR, g3, ai, hlt, kri, cri, hcI, cvi, hvI, hv0, slvLo, hiT, hrow, famNe, famNe']
          (repeat (refine And.intro (by omega) ?_))
          ((repeat (refine regA_by 0 rfl ?_; simp only [go_sem, slvLo])); refine call_pure (o5) rfl ?_; simp only [go_sem, slvLo]; (repeat (refine regA_by 0 rfl ?_; simp only [go_sem, slvLo])); refine call_pure (o6) rfl ?_; simp only [go_sem, slvLo]; (repeat (refine regA_by 0 rfl ?_; simp only [go_sem, slvLo])))
          simp only [go_sem, slvLo, hvI, hv0, lnV, famNe, famNe']
          (repeat (refine And.intro (by omega) ?_))
          refine ⟨i + 1, hlt', (by show S.R - (i + 1) < S.R - i; omega), ?_⟩
          (refine gstep_list rfl ?_ ?_ ?_ ?_ <;> (try simp only [go_sem, tail_one, cellsL_refs, slvLo, AtS_upd, slv_ctl, hR0, sd, wrap_i64 (n := (i : Int) + 1) (by omega) (by omega)]) <;> (try simp only [true_or, or_true, or_false, beq_self_eq_true, and_self, true_and, and_true]))
          exact AtS.va' (b := 1000000) (va := S.vrow r c i) (by simp only [go_sem, slvLo, AtS_upd]) _
      · obtain rfl : i = S.R := by omega
        obtain ⟨x, hx⟩ : ∃ x, x = S.rw r := ⟨_, rfl⟩
        obtain ⟨j0, hj0⟩ : ∃ j, j = x - S.n := ⟨_, rfl⟩
        rw [← hx] at hxv hrn
        have hjw : IntKind.i64.wrap ((x : Int) - (S.n : Int)) = (j0 : Int) := by rw [wrap_i64 (by omega) (by omega)]; omega
        have hj1 : ((j0 : Int) < (S.R : Int)) = True := eq_true (by omega)
        have hj2 : ((0 : Int) ≤ (j0 : Int)) = True := eq_true (by omega)
        have hxI : ((x : Int) < (S.n : Int) + (S.R : Int)) = True := eq_true (by omega)
        have hx0 : ((0 : Int) ≤ (x : Int)) = True := eq_true (by omega)
        have cmj := cm (g := S.mo) (j := j0) (by omega)
        have sd := cG_sd (n := S.n + S.R) (g := S.vrow r c S.R) hxv (q := S.mo j0)
        have hfn : (fun u => if u = x then S.mo j0 else S.vrow r c S.R u) = S.tva r c := by
          funext u
          show _ = if u = S.rw r then S.mo (S.rw r - S.n) else S.vrow r c S.R u
          rw [← hx, ← hj0]
        rw [hfn] at sd
        have tu := s_turn (wvS S (S.tva r c)) r c hK hdim hB.a hr hc
        simp only [go_sem]
        rw [← hx]
        refine regA_by 0 rfl ?_
        simp only [go_sem, hR, g4, cmj, hjw, hj1, hj2, hxI, hx0, slvLo]
        (repeat (refine And.intro (by omega) ?_))
        simp only [go_sem, slvLo, hxI, hx0, lnV, sd]
        (repeat (refine And.intro (by omega) ?_))
        refine call_slv (S := wvS S (S.tva r c)) (S' := S.piv r c) 1000000 (.inr rfl) tu rfl rfl rfl (List.forall_mem_cons.2 ⟨slv_p, List.forall_mem_cons.2 ⟨trivial, List.forall_mem_cons.2 ⟨trivial, fun x hx => by cases hx⟩⟩⟩) ?_ ?_
        · exact AtS.va' (b := 1000000) (va := S.vrow r c S.R) (S := S) (by simp only [go_sem, slvLo, AtS_upd]) (S.tva r c)
        · simp only [go_sem]
          refine xret0 (.inl rfl) (slv_or_end (S' := S.piv r c) (S0 := wvS S (S.vrow r c S.R)) rfl rfl (H := upd (lookH (slvE 1000000 (wvS S (S.vrow r c S.R)) [(8, (cR (S.by' r c)).map .t)])) 1000005 (some (cellsL cR (fnG (S.n + S.R) (S.tva r c))))) fun b hb hne => ?_)
          intro hno
          apply hne
          show upd (lookH (slvE 1000000 (wvS S (S.vrow r c S.R)) [(8, _)])) 1000005 _ b = none
          rw [upd_at, if_neg (fun e => xS_5 (e ▸ hno)), slvE_hi (by intro k hk; simp at hk; subst hk; decide) hb]
          exact hno
end Go.Proofs.YtfgejnedaijjiaaGreat
