/- At every input the call answers true and leaves its arguments as they were; no conditions. -/
import Derived.Test.YtjmbhknhiakkpaaUd
import Derived.Test.YtjmbhknhiakkpaaNw
import Derived.Test.YtjmbhknhiakkpaaQz
set_option linter.unusedSimpArgs false
set_option linter.unusedVariables false
namespace Go.Proofs.Ytjmbhknhiakkpaa
open Go Go.Abs
set_option maxHeartbeats 32000000
/-- So far the columns are laid. -/
def laidF (p q : Nat → Nat → Int) (i r c : Nat) : Int := if r < i then q r c else p r c
theorem p_HermiteOne (a : List (List RI)) (ja : a.length ≤ 9223372036854775807) (ka : ∀ r ∈ a, r.length ≤ 9223372036854775807 ∧ ∀ p ∈ r, p.2.length ≤ 9223372036854775807) (n : Int) (n1 : 0 ≤ n) (n2 : n < 256) (i : Int) (i1 : 0 ≤ i) (i2 : i < 256) (j : Int) (j1 : 0 ≤ j) (j2 : j < 256) (c : Int) (d1 : -128 ≤ c) (d2 : c < 128) :
    PCall Try.prog 4 [.one (eW a), tI .u8 n, tI .u8 i, tI .u8 j, tI .i8 c] (tB true) := by
  have hk := known20
  have q1 := few20 a ja ka
  obtain ⟨N, rfl⟩ : ∃ N : Nat, n = N := ⟨n.toNat, by omega⟩
  obtain ⟨I, rfl⟩ : ∃ N : Nat, i = N := ⟨i.toNat, by omega⟩
  obtain ⟨J, rfl⟩ : ∃ N : Nat, j = N := ⟨j.toNat, by omega⟩
  have hT : Int.tmod (N : Int) 5 = ((N % 5 : Nat) : Int) := rfl
  obtain ⟨M, hM5, hke⟩ : ∃ k, k < 5 ∧ N % 5 = k := ⟨_, Nat.mod_lt _ (by decide), rfl⟩
  rw [hke] at hT
  obtain ⟨k, hkM⟩ : ∃ k, k = M + 2 := ⟨_, rfl⟩
  have w1 : IntKind.i64.wrap (M : Int) = M := wrap_i64 (by omega) (by omega)
  have w2 : IntKind.i64.wrap ((M : Int) + 2) = (k : Int) := by rw [wrap_i64 (by omega) (by omega)]; omega
  have w3 : IntKind.i64.wrap (I : Int) = I := wrap_i64 (by omega) (by omega)
  have w4 : IntKind.i64.wrap (J : Int) = J := wrap_i64 (by omega) (by omega)
  have hx : Int.tmod (I : Int) (k : Int) = ((I % k : Nat) : Int) := rfl
  have hy : Int.tmod (J : Int) (k : Int) = ((J % k : Nat) : Int) := rfl
  obtain ⟨x, hxk, hxe⟩ : ∃ x, x < k ∧ I % k = x := ⟨_, Nat.mod_lt _ (by omega), rfl⟩
  obtain ⟨y, hyk, hye⟩ : ∃ y, y < k ∧ J % k = y := ⟨_, Nat.mod_lt _ (by omega), rfl⟩
  rw [hxe] at hx
  rw [hye] at hy
  have hk0 : ((k : Int) = 0) = False := eq_false (by omega)
  refine pcall_of_wpS [false, false, false, false, false, false, true] mixed Try.call4 Try.func4 rfl Try.ntmps4 Try.results4 (by simp) (by decide) ?_
  by_cases c1 : FW a
  rotate_left
  · have q1 := tB_not q1 c1
    simp only [go_sem]
    ((repeat (refine regA_by 0 rfl ?_; simp only [go_sem, hT, w1, w2, w3, w4, hx, hy, hk0])); refine call_pure (hk) rfl ?_; simp only [go_sem, hT, w1, w2, w3, w4, hx, hy, hk0]; (repeat (refine regA_by 0 rfl ?_; simp only [go_sem, hT, w1, w2, w3, w4, hx, hy, hk0])); refine call_pure (q1) rfl ?_; simp only [go_sem, hT, w1, w2, w3, w4, hx, hy, hk0]; (repeat (refine regA_by 0 rfl ?_; simp only [go_sem, hT, w1, w2, w3, w4, hx, hy, hk0])))
  have q1 := tB_of q1 c1
  by_cases c2 : x = y
  · have c2' : ((x : Int) = (y : Int)) = True := eq_true (by omega)
    simp only [go_sem]
    ((repeat (refine regA_by 0 rfl ?_; simp only [go_sem, hT, w1, w2, w3, w4, hx, hy, hk0, c2'])); refine call_pure (hk) rfl ?_; simp only [go_sem, hT, w1, w2, w3, w4, hx, hy, hk0, c2']; (repeat (refine regA_by 0 rfl ?_; simp only [go_sem, hT, w1, w2, w3, w4, hx, hy, hk0, c2'])); refine call_pure (q1) rfl ?_; simp only [go_sem, hT, w1, w2, w3, w4, hx, hy, hk0, c2']; (repeat (refine regA_by 0 rfl ?_; simp only [go_sem, hT, w1, w2, w3, w4, hx, hy, hk0, c2'])))
  have c2' : ((x : Int) = (y : Int)) = False := eq_false (by omega)
  have la := c1.LR
  have h1 := c1.2
  have la2 : ∀ r ∈ a, LR 2 r := fun r hr => ⟨(la r hr).1, (c1.1 r hr).2⟩
  have hcut := r_Cut a k (L := 2) (by decide) la2 (by omega) (by omega)
  obtain ⟨R, hR⟩ : ∃ R, R = a.length := ⟨_, rfl⟩
  obtain ⟨p, hp⟩ : ∃ p, p = atW a := ⟨_, rfl⟩
  obtain ⟨q, hq⟩ : ∃ q, q = laidC p x y c := ⟨_, rfl⟩
  have hpl : ∀ r c, lN (p r c) ≤ 2 := fun r c => by rw [hp]; exact lN_atW la2 r c
  simp only [go_sem]
  ((repeat (refine regA_by 0 rfl ?_; simp only [go_sem, hT, w1, w2, w3, w4, hx, hy, hk0, c2'])); refine call_pure (hk) rfl ?_; simp only [go_sem, hT, w1, w2, w3, w4, hx, hy, hk0, c2']; (repeat (refine regA_by 0 rfl ?_; simp only [go_sem, hT, w1, w2, w3, w4, hx, hy, hk0, c2'])); refine call_pure (q1) rfl ?_; simp only [go_sem, hT, w1, w2, w3, w4, hx, hy, hk0, c2']; (repeat (refine regA_by 0 rfl ?_; simp only [go_sem, hT, w1, w2, w3, w4, hx, hy, hk0, c2'])))
  refine call_grid (m := 2) (q := 0) (hk := 900001) (g := atW a) (rows := fun q => fnG k (atW a q)) (e := []) (.inr rfl) hcut rfl (by omega) (by decide) (by funext x; rfl) (fun b hb => by simp at hb) (fun i hi => by rw [Nat.zero_add]) ?_
  simp only [go_sem, Nat.zero_add, Nat.add_zero, ← hR, ← hp]
  refine loop_inv (fun i : Nat => stL 95 [(0, .one (.t (eW a))), (4, .one (.t (.lit (.int .i8 c)))), (11, litI .i64 k), (12, litI .i64 x), (13, litI .i64 y), (14, .one (.vec 900001 1 0 R)), (15, litI .i64 i)]
      (famE 900100 cJ (fun r => fnG k (laidF p q i r)) R ++ [(900001, rowsC 900100 2 k R)])) (fun i => i ≤ R) (fun i => R - i) 0 ?_ (Nat.zero_le _) ?_
  · (refine gstep_list rfl ?_ ?_ ?_ ?_ <;> (try simp only [go_sem, tail_one]) <;> (try simp only [true_or, or_true, or_false, beq_self_eq_true, and_self, true_and, and_true]))
    exact fun r hr => by rw [if_pos ⟨by omega, hr⟩]; rfl
  · intro i hi
    simp only [go_sem]
    refine CondR_if (fun hlt => ?_) (fun hge => ?_)
    · have hlt' : i < R := by omega
      have a3 : (rowsC 900100 2 k R).drop i = .vec (900100 + i) 2 0 k :: (rowsC 900100 2 k R).drop (i + 1) := rowsC_at hlt'
      have hrl := rowsC_len (b := 900100) (sz := 2) (len := k) (n := R)
      have cl := fun g => cJ_clen (n := k) (g := g)
      have hIR : ((i : Int) < (R : Int)) = True := eq_true (by omega)
      have hIx : ((x : Int) < (k : Int)) = True := eq_true (by omega)
      have hIy : ((y : Int) < (k : Int)) = True := eq_true (by omega)
      have a4 := cG_at (f := cJ) (g := laidF p q i i) cJ_len hxk
      have a5 := cG_at (f := cJ) (g := laidF p q i i) cJ_len hyk
      have sd := cJ_sd (n := k) (g := laidF p q i i) hxk (q := q i x)
      have wc : IntKind.i64.wrap c = c := wrap_i64 (by omega) (by omega)
      have o1 : PCall Try.prog 20 [tI .i64 c] (eI c) := i_Of c (by omega) (by omega)
      have lc : lN c ≤ 1 := lN_small (by omega)
      have p1 := hpl i x
      have p2 := hpl i y
      have e1 : laidF p q i i x = p i x := if_neg (by omega)
      have e2 : laidF p q i i y = p i y := if_neg (by omega)
      rw [e1] at a4
      rw [e2] at a5
      have o2 := i_Mul_e c (p i y) (by omega) (by omega)
      have p3 := lN_mul c (p i y)
      have o3 := i_Add_e (p i x) (c * p i y) (by omega) (by omega)
      have e3 : p i x + c * p i y = q i x := by rw [hq]; exact (if_pos rfl).symm
      rw [e3] at o3
      simp only [go_sem, hIR]
      refine regA_by 0 rfl ?_
      simp only [go_sem, a3, a4, a5, hrl, hIR, hIx, hIy, cl, fam9, fam10, fam11, wc, hlt']
      (repeat (refine And.intro (by omega) ?_))
      ((repeat (refine regA_by 0 rfl ?_; simp only [go_sem, a3, a4, a5, hrl, hIR, hIx, hIy, cl, fam9, fam10, fam11, wc, hlt'])); refine call_pure (o1) rfl ?_; simp only [go_sem, a3, a4, a5, hrl, hIR, hIx, hIy, cl, fam9, fam10, fam11, wc, hlt']; (repeat (refine regA_by 0 rfl ?_; simp only [go_sem, a3, a4, a5, hrl, hIR, hIx, hIy, cl, fam9, fam10, fam11, wc, hlt'])))
      (repeat (refine And.intro (by omega) ?_))
      ((repeat (refine regA_by 0 rfl ?_; simp only [go_sem, a3, a4, a5, hrl, hIR, hIx, hIy, cl, fam9, fam10, fam11, wc, hlt'])); refine call_pure (o2) rfl ?_; simp only [go_sem, a3, a4, a5, hrl, hIR, hIx, hIy, cl, fam9, fam10, fam11, wc, hlt']; (repeat (refine regA_by 0 rfl ?_; simp only [go_sem, a3, a4, a5, hrl, hIR, hIx, hIy, cl, fam9, fam10, fam11, wc, hlt'])); refine call_pure (o3) rfl ?_; simp only [go_sem, a3, a4, a5, hrl, hIR, hIx, hIy, cl, fam9, fam10, fam11, wc, hlt']; (repeat (refine regA_by 0 rfl ?_; simp only [go_sem, a3, a4, a5, hrl, hIR, hIx, hIy, cl, fam9, fam10, fam11, wc, hlt'])))
      (repeat (refine And.intro (by omega) ?_))
      simp only [go_sem, sd]
      refine ⟨i + 1, hlt', (by show R - (i + 1) < R - i; omega), ?_⟩
      (refine gstep_list rfl ?_ ?_ ?_ ?_ <;> (try simp only [go_sem, tail_one, fam9, fam10, fam11, sd, wrap_i64 (n := (i : Int) + 1) (by omega) (by omega)]) <;> (try simp only [true_or, or_true, or_false, beq_self_eq_true, and_self, true_and, and_true]))
      intro r hr
      by_cases e : r = i
      · rw [if_pos e, e]
        congr 2
        refine fnG_congr fun v _ => ?_
        show (if v = x then q i x else if i < i then q i v else p i v) = if i < i + 1 then q i v else p i v
        rw [if_pos (Nat.lt_succ_self i), if_neg (Nat.lt_irrefl i)]
        by_cases ev : v = x
        · rw [if_pos ev, ev]
        · rw [if_neg ev, hq]; exact (if_neg ev).symm
      · rw [if_neg e, if_pos hr]
        congr 2
        refine fnG_congr fun v _ => ?_
        show (if r < i then q r v else p r v) = if r < i + 1 then q r v else p r v
        by_cases e3 : r < i
        · rw [if_pos e3, if_pos (by omega)]
        · rw [if_neg e3, if_neg (by omega)]
    · obtain rfl : i = R := by omega
      simp only [go_sem]
      have eq : ∀ r c, r < i → laidF p q i r c = q r c := fun r c h => if_pos h
      refine pau (stL 95 [(0, .one (.t (eW a))), (11, litI .i64 k), (14, .one (.t (eW (rawM i k q))))] []) (GStep.trans (gstep_mat (R := i) (n := k) (g := q) (by simp only [go_sem]) fun r hr => by show lookH (famE 900100 cJ (fun r => fnG k (laidF p q i r)) i ++ [(900001, rowsC 900100 2 k i)]) (900100 + r) = _; rw [lookH_fam_at hr, fnG_congr fun c _ => eq r c hr]) ?_) ?_
      · (refine gstep_list rfl ?_ ?_ ?_ ?_ <;> (try simp only [go_sem, tail_one]) <;> (try simp only [true_or, or_true, or_false, beq_self_eq_true, and_self, true_and, and_true]))
      have hql : ∀ r d, lN (q r d) ≤ 3 := fun r d => by
        have h1 := lt_lN (p r d)
        have h2 := lt_lN (p r x)
        have h3 := lt_lN (p r y)
        have := hpl r d
        have := hpl r x
        have := hpl r y
        have up : ∀ {m}, m ≤ 2 → BB ^ m ≤ BB ^ 2 := fun h => Nat.pow_le_pow_right (by decide) h
        have u1 := up (hpl r x)
        have u2 := up (hpl r y)
        rw [hq]
        unfold laidC
        split
        · refine lN_of ?_
          have hm : (c * p r y).natAbs = c.natAbs * (p r y).natAbs := Int.natAbs_mul _ _
          have hc : c.natAbs ≤ 128 := by omega
          have h4 : c.natAbs * (p r y).natAbs ≤ 128 * (p r y).natAbs := Nat.mul_le_mul_right _ hc
          have hB : BB ^ 2 = 1000000000000000000 := by decide
          have hB3 : BB ^ 3 = 1000000000000000000000000000 := by decide
          rw [hB] at u1 u2
          show (p r x + c * p r y).natAbs < BB ^ 3
          rw [hB3]
          omega
        · omega
      obtain ⟨b, hb⟩ : ∃ b, b = rawM i k q := ⟨_, rfl⟩
      have hbl : b.length = i := by rw [hb, rawM_len]
      have lb : ∀ r ∈ b, LR 3 r := by rw [hb]; exact LR_raw (by omega) fun r c _ _ => hql r c
      have hbq : ∀ r c, r < i → c < k → atW b r c = q r c := fun r c h1 h2 => by rw [hb, atW_raw h1 h2]
      rw [← hb]
      obtain ⟨S, hS⟩ : ∃ S, S = (madeS (atW a) k a.length a.length).1 := ⟨_, rfl⟩
      obtain ⟨S', hS'⟩ : ∃ S, S = (madeS (atW b) k b.length b.length).1 := ⟨_, rfl⟩
      have hSd := madeS_dim (a := atW a) (n := k) (R := a.length) a.length
      have hSd' := madeS_dim (a := atW b) (n := k) (R := b.length) b.length
      have hi1 := madeS_inv (a := atW a) (n := k) (R := a.length) a.length
      have hi2 := madeS_inv (a := atW b) (n := k) (R := b.length) b.length
      have ho1 := few_out la (n := k) (by omega)
      have ho2 := few_out lb (n := k) (by omega)
      have hs1 := made_shp (a := atW a) (n := k) (R := a.length) (by omega) fun r c _ _ => atW_nat la r c
      have hs2 := made_shp (a := atW b) (n := k) (R := b.length) (by omega) fun r c _ _ => atW_nat lb r c
      rw [← hS] at hSd hi1 ho1 hs1
      rw [← hS'] at hSd' hi2 ho2 hs2
      have hee : eeB k / 29 + 1 ≤ 213200000 := by
        have := eeB_mono (i := k) (j := 6) (by omega)
        rw [eeB6] at this; omega
      have f1 := h_Form a k (K := 213200000) (L := 3) (by decide) (by decide) (by omega) (by omega) la (few_made6 la (by omega)) hS
      have f2 := h_Form b k (K := 213200000) (L := 3) (by decide) (by decide) (by omega) (by omega) lb (few_made6 lb (by omega)) hS'
      rw [hSd.1, hSd.2] at f1
      rw [hSd'.1, hSd'.2] at f2
      rw [hbl] at hi2 hs2 f2
      rw [← hR] at hi1 hs1 f1
      have cl1 : Cols i k q p := by rw [hq]; exact cols_laid hxk hyk
      have cl2 : Cols i k p q := by
        have := cols_laid (a := q) (R := i) (x := x) (y := y) (q := -c) hxk hyk
        exact this.congr fun r c' h1 h2 => by rw [hq, laid_back c2]
      have cb1 : Cols i k (atW b) q := by obtain ⟨w, hw⟩ := Cols.refl (R := i) (n := k) q; exact ⟨w, fun r hr c hc => by rw [hbq r c hr hc]; exact hw r hr c hc⟩
      have cb2 : Cols i k q (atW b) := (Cols.refl (R := i) (n := k) (atW b)).congr fun r c h1 h2 => (hbq r c h1 h2).symm
      rw [← hp] at hi1
      have cA : Cols i k S.h S'.h := hi1.cols.trans (cl2.trans (cb2.trans hi2.cols'))
      have cB : Cols i k S'.h S.h := hi2.cols.trans (cb1.trans (cl1.trans hi1.cols'))
      have hun := (shp_uniq hs1 hs2 cA cB i (Nat.le_refl _)).2
      rw [show rawM i k S'.h = rawM i k S.h from rawM_congr fun r c h1 h2 => (hun r c h1 h2).symm] at f2
      have lh : ∀ r ∈ rawM i k S.h, LR 213200000 r := LR_raw (by omega) fun r c h1 h2 => Nat.le_trans (ho1.h r c (by omega) (by omega)) hee
      have f3 := tB_of (h_Equal (rawM i k S.h) (rawM i k S.h) (L := 213200000) (by decide) lh lh (by rw [rawM_len]; omega) (by rw [rawM_len]; omega)) rfl
      generalize rawM i k S.h = h at *
      simp only [go_sem]
      ((repeat (refine regA_by 0 rfl ?_; simp only [go_sem])); refine call_pure (f1) rfl ?_; simp only [go_sem]; (repeat (refine regA_by 0 rfl ?_; simp only [go_sem])); refine call_pure (f2) rfl ?_; simp only [go_sem]; (repeat (refine regA_by 0 rfl ?_; simp only [go_sem])); refine call_pure (f3) rfl ?_; simp only [go_sem]; (repeat (refine regA_by 0 rfl ?_; simp only [go_sem])))
end Go.Proofs.Ytjmbhknhiakkpaa
namespace Go.Proofs.Ytjmbhknhiakkpaa
open Go Go.Abs Go.ChangeShapes Go.WideShapes Go.ChangeAt Go.RowKit
set_option maxRecDepth 100000
theorem hermiteOne_lifted (os : Os) (started : os.Started) (H : Type) (enc : TypeId × Value → H) :
    ReturnsInHanded {} Try.checked os 4 .any (Rows.hermiteOneSpec.pre6 enc Try.prog Try.f4 Rows.hermiteOneRow.domain false) (Rows.hermiteOneSpec.post enc Try.prog Try.f4 false true false false) := by
  refine returnsInHanded_of_change (C := Try.checked) Try.ownK started (by kernel_rfl) Try.func4
    (ChangeSpec.witness6 (enc := enc) (C := Try.checked) false ⟨#[], #[.slice none 0 0, .int .u8 0, .int .u8 0, .int .u8 0, .int .i8 0], []⟩ 8 (by kernel_rfl) (by kernel_rfl) (by kernel_rfl) (by kernel_rfl)) ?_
  intro W base args ds gs before hval hW _ _
  refine row_of_pcall (S := plainS) (tb := 4) plain_ok Try.laidOut (by intro t ht; revert t; decide +kernel) rfl Try.underlying4 rfl (fun ds h => ?_) (fun tvs h => ?_) hval hW
  · match ds, h with
    | [d0, d1, d2, d3, d4], _ => rfl
  · obtain ⟨x0, _, rfl, h0, h⟩ := wtvs_cons h
    obtain ⟨x1, _, rfl, h1, h⟩ := wtvs_cons h
    obtain ⟨x2, _, rfl, h2, h⟩ := wtvs_cons h
    obtain ⟨x3, _, rfl, h3, h⟩ := wtvs_cons h
    obtain ⟨x4, _, rfl, h4, h⟩ := wtvs_cons h
    obtain rfl := wtvs_nil h
    obtain ⟨l0, rfl, j0, k0⟩ := wtv_Mat h0
    obtain ⟨n1, rfl, k1⟩ := wtv_int Try.underlying5 h1
    have k1 := wf_u8 k1
    obtain ⟨n2, rfl, k2⟩ := wtv_int Try.underlying5 h2
    have k2 := wf_u8 k2
    obtain ⟨n3, rfl, k3⟩ := wtv_int Try.underlying5 h3
    have k3 := wf_u8 k3
    obtain ⟨n4, rfl, k4⟩ := wtv_int Try.underlying32 h4
    have k4 := wf_i8 k4
    exact p_HermiteOne l0 j0 k0 n1 k1.1 k1.2 n2 k2.1 k2.2 n3 k3.1 k3.2 n4 k4.1 k4.2

theorem hermiteOne_holds : Rows.HermiteOneSaid :=
  OpenClaim.holds_of_wide 4 Try.f4 rfl rfl rfl rfl rfl rfl rfl ⟨rfl, rfl, rfl, rfl, rfl⟩ rfl rfl rfl rfl rfl (by kernel_rfl) Try.func4 (by kernel_rfl)
    (of_decide_eq_true (by kernel_rfl)) (by unfold Func.isWrapper; first | (rw [if_pos (by decide +kernel)]; kernel_rfl) | (rw [if_neg (by decide +kernel)]; exact ⟨rfl, rfl⟩))
    (fun os started H enc _ => hermiteOne_lifted os started H enc)
end Go.Proofs.Ytjmbhknhiakkpaa
