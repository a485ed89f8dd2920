/- At every input the call answers true and leaves its arguments as they were; no conditions. -/
import Derived.Test.YtjmbhknhiakkpaaGreatUc
import Derived.Test.YtjmbhknhiakkpaaGreatNz
import Derived.Test.YtjmbhknhiakkpaaGreatMj
import Derived.Test.YtjmbhknhiakkpaaGreatNw
set_option linter.unusedSimpArgs false
set_option linter.unusedVariables false
namespace Go.Proofs.YtjmbhknhiakkpaaGreat
open Go Go.Abs
set_option maxHeartbeats 32000000
noncomputable def solT (S : HX) (pv : Nat → Int) (kk : Nat → Nat) (bf : Nat → Int) (n R T : Nat) : TV :=
  if T < R then .tup [.one (.seq (some true) []), .one (eL cR (fnG R (rsF S pv T (oftS S pv kk bf T) T))), tB false]
  else .tup [.one (eL cJ (fnG n (xSol S pv kk bf n R))), .one (.seq (some true) []), tB true]
theorem h_Solve (a : List (List RI)) (b : List RI) (n : Nat) {K L B : Nat} (hK : K ≤ 500000000) (hL : L ≤ 500000000) (hB : B ≤ 500000000) (hn : n ≤ 40) (hR : a.length < 40000) (ha : ∀ row ∈ a, LR L row) (hbL : LR L b) (hb : LBmade K (atW a) n a.length)
    {S : HX} (hS : S = (madeS (atW a) n a.length a.length).1) {pv : Nat → Int} (hpv : pv = pvS (atW a) n a.length) {kk : Nat → Nat} (hkk : kk = fun r => (madeS (atW a) n a.length r).2) (Tb : Nat) (hT : Tb ≤ a.length)
    (hgood : ∀ r, r < Tb → ¬ badS S pv kk (atR b) r) (hbad : Tb < a.length → badS S pv kk (atR b) Tb) (hLs : LBsol S pv kk (atR b) n a.length Tb K B) :
    PCall Tryz.prog 6 [.one (eW a), .one (eL cI b), tI .i64 n] (solT S pv kk (atR b) n a.length Tb) := by
  have h := h_All a b n hK hL hB hn hR ha hbL hb hS hpv hkk Tb hT hgood hbad hLs
  refine pcall_of_wpA mixed Tryz.call6 Tryz.func6 rfl Tryz.ntmps6 Tryz.results6 (by simp) (by decide) ?_
  unfold solT
  unfold resT at h
  by_cases c : Tb < a.length
  · rw [if_pos c] at h ⊢
    simp only [go_sem]
    ((repeat (refine regA_by 0 rfl ?_; simp only [go_sem])); refine call_pure (h) rfl ?_; simp only [go_sem]; (repeat (refine regA_by 0 rfl ?_; simp only [go_sem])))
    exact fz_tup3 (.one .t) (.one .t) (.one .t)
  · rw [if_neg c] at h ⊢
    simp only [go_sem]
    ((repeat (refine regA_by 0 rfl ?_; simp only [go_sem])); refine call_pure (h) rfl ?_; simp only [go_sem]; (repeat (refine regA_by 0 rfl ?_; simp only [go_sem])))
    exact fz_tup3 (.one .t) (.one .t) (.one .t)
theorem h_Place (a : List (List RI)) (i k : Nat) {L : Nat} (hL : L ≤ 10000000000) (ha : ∀ r ∈ a, LR L r) (hal : a.length < 1000000000) (hi : i < 1000000000) (hk : k < 1000000000) : PCall Tryz.prog 9 [.one (eW a), tI .i64 i, tI .i64 k] (eI (atW a i k)) := by
  have z : eI 0 = gI false [] := by show gI (decide ((0 : Int) < 0)) (dig 0) = _; rw [dig_zero]; rfl
  have hi0 : ((i : Int) < 0) = False := eq_false (by omega)
  have hk0 : ((k : Int) < 0) = False := eq_false (by omega)
  refine pcall_of_wpA mixed Tryz.call9 Tryz.func9 rfl Tryz.ntmps9 Tryz.results9 (by simp) (by decide) ?_
  by_cases c1 : i < a.length
  · have c1' : ((a.length : Int) ≤ (i : Int)) = False := eq_false (by omega)
    have c1'' : ((i : Int) < (a.length : Int)) = True := eq_true (by omega)
    have e1 : elemD cMw a i = cMw a[i] := elemD_lt c1
    have hr := ha _ (List.getElem_mem c1)
    rw [atW_lt c1]
    generalize a[i] = row at *
    by_cases c2 : k < row.length
    · have c2' : ((row.length : Int) ≤ (k : Int)) = False := eq_false (by omega)
      have c2'' : ((k : Int) < (row.length : Int)) = True := eq_true (by omega)
      have e2 : elemD cI row k = cI row[k] := elemD_lt c2
      have hb := hr.2 _ (List.getElem_mem c2)
      rw [atR_lt c2]
      generalize row[k] = p at *
      have o1 := i_May p.1 p.2 (by omega)
      simp only [go_sem, hi0, hk0, c1', c1'', c2', c2'', e1, e2, cI_len]
      (repeat (refine And.intro (by omega) ?_))
      simp only [go_sem, hi0, hk0, c1', c1'', c2', c2'', e1, e2, cI]
      ((repeat (refine regA_by 0 rfl ?_; simp only [go_sem, hi0, hk0, c1', c1'', c2', c2'', e1, e2, cI])); refine call_pure (o1) rfl ?_; simp only [go_sem, hi0, hk0, c1', c1'', c2', c2'', e1, e2, cI]; (repeat (refine regA_by 0 rfl ?_; simp only [go_sem, hi0, hk0, c1', c1'', c2', c2'', e1, e2, cI])))
      exact fz_agg2 .t .t
    · have c2' : ((row.length : Int) ≤ (k : Int)) = True := eq_true (by omega)
      rw [atR_ge (by omega), z]
      simp only [go_sem, hi0, hk0, c1', c1'', c2', e1]
      (repeat (refine And.intro (by omega) ?_))
      exact fz_agg2 .t .weak
  · have c1' : ((a.length : Int) ≤ (i : Int)) = True := eq_true (by omega)
    rw [atW_ge (by omega), z]
    simp only [go_sem, hi0, hk0, c1']
    (repeat (refine And.intro (by omega) ?_))
    exact fz_agg2 .t .weak
set_option maxRecDepth 100000 in
theorem h_Equal (a b : List (List RI)) {L : Nat} (hL : L ≤ 10000000000) (ha : ∀ r ∈ a, LR L r) (hb : ∀ r ∈ b, LR L r) (hal : a.length < 1000000000) (hbl : b.length < 1000000000) : PCall Tryz.prog 15 [.one (eW a), .one (eW b)] (tB (decide (a = b))) := by
  refine pcall_of_wpA mixed Tryz.call15 Tryz.func15 rfl Tryz.ntmps15 Tryz.results15 (by simp) (by decide) ?_
  by_cases c0 : a.length = b.length
  · have c0' : ((a.length : Int) = (b.length : Int)) = True := eq_true (by omega)
    simp only [go_sem, c0']
    refine loop_inv (fun i : Nat => stL 54 [(0, .one (.t (eW a))), (1, .one (.t (eW b))), (5, litI .i64 i)] []) (fun i => i ≤ a.length ∧ a.take i = b.take i) (fun i => a.length - i) 0 ?_ ⟨Nat.zero_le _, rfl⟩ ?_
    · (refine gstep_list rfl ?_ ?_ ?_ ?_ <;> (try simp only [go_sem, tail_one]) <;> (try simp))
    · rintro i ⟨hi, hinv⟩
      simp only [go_sem]
      refine CondR_if (fun hlt => ?_) (fun hge => ?_)
      · have hla : i < a.length := by omega
        have hlb : i < b.length := by omega
        have e1 : elemD cMw a i = cMw a[i] := elemD_lt hla
        have e2 : elemD cMw b i = cMw b[i] := elemD_lt hlb
        have hI1 : ((i : Int) < (a.length : Int)) = True := eq_true (by omega)
        have hI2 : ((i : Int) < (b.length : Int)) = True := eq_true (by omega)
        have hra := ha _ (List.getElem_mem hla)
        have hrb := hb _ (List.getElem_mem hlb)
        have hbad : ¬ a[i] = b[i] → decide (a = b) = false := fun h => decide_eq_false fun hf => h (by subst hf; rfl)
        have hnx : a[i] = b[i] → a.take (i + 1) = b.take (i + 1) := fun h => by rw [take_snoc hla, take_snoc hlb, hinv, h]
        generalize a[i] = x at *
        generalize b[i] = y at *
        simp only [go_sem]
        refine regA_by 0 rfl ?_
        simp only [go_sem, e1, e2, hI1, hI2]
        (repeat (refine And.intro (by omega) ?_))
        by_cases c1 : x.length = y.length
        · have c1' : ((x.length : Int) = (y.length : Int)) = True := eq_true (by omega)
          simp only [go_sem, c1']
          refine loop_inv (fun k : Nat => stL 54 [(0, .one (.t (eW a))), (1, .one (.t (eW b))), (5, litI .i64 i), (6, litI .i64 k)] []) (fun k => k ≤ x.length ∧ x.take k = y.take k) (fun k => x.length - k) 0 ?_ ⟨Nat.zero_le _, rfl⟩ ?_
          · (refine gstep_list rfl ?_ ?_ ?_ ?_ <;> (try simp only [go_sem, tail_one]) <;> (try simp))
          · rintro k ⟨hk, hkin⟩
            simp only [go_sem, e1, hI1]
            (repeat (refine And.intro (by omega) ?_))
            refine CondR_if (fun hlk => ?_) (fun hgk => ?_)
            · have hkx : k < x.length := by omega
              have hky : k < y.length := by omega
              have f1 : elemD cI x k = cI x[k] := elemD_lt hkx
              have f2 : elemD cI y k = cI y[k] := elemD_lt hky
              have kI1 : ((k : Int) < (x.length : Int)) = True := eq_true (by omega)
              have kI2 : ((k : Int) < (y.length : Int)) = True := eq_true (by omega)
              have hxl := hra.1
              have hb1 := hra.2 _ (List.getElem_mem hkx)
              have hb2 := hrb.2 _ (List.getElem_mem hky)
              have hnk : x[k] = y[k] → x.take (k + 1) = y.take (k + 1) := fun h => by rw [take_snoc hkx, take_snoc hky, hkin, h]
              have hbk : ¬ x[k] = y[k] → decide (a = b) = false := fun h => hbad fun hf => h (by subst hf; rfl)
              generalize x[k] = p at *
              generalize y[k] = q at *
              have o1 := i_Equal p.1 p.2 q.1 q.2 (by omega) (by omega)
              simp only [go_sem]
              refine regA_by 0 rfl ?_
              simp only [go_sem, e1, e2, hI1, hI2, f1, f2, kI1, kI2, cI_len]
              (repeat (refine And.intro (by omega) ?_))
              simp only [go_sem, e1, e2, hI1, hI2, f1, f2, kI1, kI2, cI]
              by_cases c2 : p = q
              · have o1 := tB_of o1 ⟨congrArg Prod.fst c2, congrArg Prod.snd c2⟩
                ((repeat (refine regA_by 0 rfl ?_; simp only [go_sem, e1, e2, hI1, hI2, f1, f2, kI1, kI2, cI])); refine call_pure (o1) rfl ?_; simp only [go_sem, e1, e2, hI1, hI2, f1, f2, kI1, kI2, cI]; (repeat (refine regA_by 0 rfl ?_; simp only [go_sem, e1, e2, hI1, hI2, f1, f2, kI1, kI2, cI])))
                refine ⟨k + 1, ⟨hkx, hnk c2⟩, (by show x.length - (k + 1) < x.length - k; omega), ?_⟩
                (refine gstep_list rfl ?_ ?_ ?_ ?_ <;> (try simp only [go_sem, tail_one, wrap_i64 (n := (k : Int) + 1) (by omega) (by omega)]) <;> (try simp))
              · have o1 := tB_not o1 (fun h => c2 (Prod.ext h.1 h.2))
                rw [hbk c2]
                ((repeat (refine regA_by 0 rfl ?_; simp only [go_sem, e1, e2, hI1, hI2, f1, f2, kI1, kI2, cI])); refine call_pure (o1) rfl ?_; simp only [go_sem, e1, e2, hI1, hI2, f1, f2, kI1, kI2, cI]; (repeat (refine regA_by 0 rfl ?_; simp only [go_sem, e1, e2, hI1, hI2, f1, f2, kI1, kI2, cI])))
            · obtain rfl : k = x.length := by omega
              have hxy : x = y := by rw [← List.take_length (l := x), hkin, c1, List.take_length]
              simp only [go_sem]
              refine ⟨i + 1, ⟨hla, hnx hxy⟩, (by show a.length - (i + 1) < a.length - i; omega), ?_⟩
              (refine gstep_list rfl ?_ ?_ ?_ ?_ <;> (try simp only [go_sem, tail_one, wrap_i64 (n := (i : Int) + 1) (by omega) (by omega)]) <;> (try simp))
        · have c1' : ((x.length : Int) = (y.length : Int)) = False := eq_false (by omega)
          rw [hbad fun h => c1 (by rw [h])]
          simp only [go_sem, c1']
      · obtain rfl : i = a.length := by omega
        have hab : a = b := by rw [← List.take_length (l := a), hinv, c0, List.take_length]
        rw [decide_eq_true hab]
        simp only [go_sem]
  · have c0' : ((a.length : Int) = (b.length : Int)) = False := eq_false (by omega)
    rw [decide_eq_false (show ¬ a = b from fun h => c0 (by rw [h]))]
    simp only [go_sem, c0']
/-- Small matrices. -/
def FW (a : List (List RI)) : Prop := (∀ r ∈ a, r.length ≤ 8 ∧ ∀ p ∈ r, p.2.length ≤ 2) ∧ a.length ≤ 6
instance (a : List (List RI)) : Decidable (FW a) := by unfold FW; exact inferInstance
set_option maxRecDepth 100000 in
theorem few20 (a : List (List RI)) (hal : a.length ≤ 9223372036854775807) (ha : ∀ r ∈ a, r.length ≤ 9223372036854775807 ∧ ∀ p ∈ r, p.2.length ≤ 9223372036854775807) : PCall Tryz.prog 5 [.one (eW a)] (tB (decide (FW a))) := by
  refine pcall_of_wpA mixed Tryz.call5 Tryz.func5 rfl Tryz.ntmps5 Tryz.results5 (by simp) (by decide) ?_
  simp only [go_sem]
  refine loop_inv (fun i : Nat => stL 39 [(0, .one (.t (eW a))), (3, litI .i64 i)] []) (fun i => i ≤ a.length ∧ ∀ r ∈ a.take i, r.length ≤ 8 ∧ ∀ p ∈ r, p.2.length ≤ 2) (fun i => a.length - i) 0 ?_ ⟨Nat.zero_le _, by rw [List.take_zero]; intro r hr; cases hr⟩ ?_
  · (refine gstep_list rfl ?_ ?_ ?_ ?_ <;> (try simp only [go_sem, tail_one]) <;> (try simp))
  · rintro i ⟨hi, hinv⟩
    simp only [go_sem]
    refine CondR_if (fun hlt => ?_) (fun hge => ?_)
    · have hla : i < a.length := by omega
      have e1 : elemD cMw a i = cMw a[i] := elemD_lt hla
      have hI1 : ((i : Int) < (a.length : Int)) = True := eq_true (by omega)
      obtain ⟨hrl, hrp⟩ := ha _ (List.getElem_mem hla)
      have hbad : ¬ (a[i].length ≤ 8 ∧ ∀ p ∈ a[i], p.2.length ≤ 2) → decide (FW a) = false := fun h => decide_eq_false fun hf => h (hf.1 _ (List.getElem_mem hla))
      have hnx : (a[i].length ≤ 8 ∧ ∀ p ∈ a[i], p.2.length ≤ 2) → ∀ r ∈ a.take (i + 1), r.length ≤ 8 ∧ ∀ p ∈ r, p.2.length ≤ 2 := fun h r hr => by
        rw [take_snoc hla] at hr
        rcases List.mem_append.1 hr with hr | hr
        · exact hinv r hr
        · obtain rfl := List.mem_singleton.1 hr; exact h
      generalize a[i] = x at *
      simp only [go_sem, e1, hI1]
      (repeat (refine And.intro (by omega) ?_))
      by_cases c1 : x.length ≤ 8
      · have c1' : ((8 : Int) < (x.length : Int)) = False := eq_false (by omega)
        simp only [go_sem, c1']
        refine loop_inv (fun k : Nat => stL 39 [(0, .one (.t (eW a))), (3, litI .i64 i), (4, litI .i64 k)] []) (fun k => k ≤ x.length ∧ ∀ p ∈ x.take k, p.2.length ≤ 2) (fun k => x.length - k) 0 ?_ ⟨Nat.zero_le _, by rw [List.take_zero]; intro r hr; cases hr⟩ ?_
        · (refine gstep_list rfl ?_ ?_ ?_ ?_ <;> (try simp only [go_sem, tail_one]) <;> (try simp))
        · rintro k ⟨hk, hkin⟩
          simp only [go_sem, e1, hI1]
          (repeat (refine And.intro (by omega) ?_))
          refine CondR_if (fun hlk => ?_) (fun hgk => ?_)
          · have hkx : k < x.length := by omega
            have f1 : elemD cI x k = cI x[k] := elemD_lt hkx
            have kI1 : ((k : Int) < (x.length : Int)) = True := eq_true (by omega)
            have hpl := hrp _ (List.getElem_mem hkx)
            have hnk : x[k].2.length ≤ 2 → ∀ p ∈ x.take (k + 1), p.2.length ≤ 2 := fun h p hp => by
              rw [take_snoc hkx] at hp
              rcases List.mem_append.1 hp with hp | hp
              · exact hkin p hp
              · obtain rfl := List.mem_singleton.1 hp; exact h
            have hbk : ¬ x[k].2.length ≤ 2 → decide (FW a) = false := fun h => hbad fun hf => h (hf.2 _ (List.getElem_mem hkx))
            generalize x[k] = p at *
            simp only [go_sem, e1, hI1, f1, kI1, cI_len]
            (repeat (refine And.intro (by omega) ?_))
            simp only [go_sem, e1, hI1, f1, kI1, cI]
            (repeat (refine And.intro (by omega) ?_))
            by_cases c2 : p.2.length ≤ 2
            · have c2' : ((2 : Int) < (p.2.length : Int)) = False := eq_false (by omega)
              simp only [go_sem, c2']
              refine ⟨k + 1, ⟨hkx, hnk c2⟩, (by show x.length - (k + 1) < x.length - k; omega), ?_⟩
              (refine gstep_list rfl ?_ ?_ ?_ ?_ <;> (try simp only [go_sem, tail_one, wrap_i64 (n := (k : Int) + 1) (by omega) (by omega)]) <;> (try simp))
            · have c2' : ((2 : Int) < (p.2.length : Int)) = True := eq_true (by omega)
              rw [hbk c2]
              simp only [go_sem, c2']
          · obtain rfl : k = x.length := by omega
            rw [List.take_length] at hkin
            simp only [go_sem]
            refine ⟨i + 1, ⟨hla, hnx ⟨c1, hkin⟩⟩, (by show a.length - (i + 1) < a.length - i; omega), ?_⟩
            (refine gstep_list rfl ?_ ?_ ?_ ?_ <;> (try simp only [go_sem, tail_one, wrap_i64 (n := (i : Int) + 1) (by omega) (by omega)]) <;> (try simp))
      · have c1' : ((8 : Int) < (x.length : Int)) = True := eq_true (by omega)
        rw [hbad fun h => c1 h.1]
        simp only [go_sem, c1']
    · obtain rfl : i = a.length := by omega
      rw [List.take_length] at hinv
      have e : decide (FW a) = decide (a.length ≤ 6) := decide_eq_decide.2 ⟨fun h => h.2, fun h => ⟨hinv, h⟩⟩
      rw [e]
      simp only [go_sem]
      rw [decide_eq_decide]; omega
end Go.Proofs.YtjmbhknhiakkpaaGreat
namespace Go.Proofs.YtjmbhknhiakkpaaGreat
open Go Go.Abs
set_option maxHeartbeats 32000000
theorem nilL_succ {k : Nat} : nilL (k + 1) = C.t (.seq (some true) []) :: nilL k := rfl
theorem nilL_at {R i : Nat} (h : i < R) : nilL (R - i) = C.t (.seq (some true) []) :: nilL (R - (i + 1)) := by rw [show R - i = R - (i + 1) + 1 by omega, nilL_succ]
/-- The head of a matrix of which i rows are made and one grows. -/
def hdA (b R n i : Nat) (xs : List Int) : List C := rowsC b 2 n i ++ accC 1000 2 xs :: nilL (R - (i + 1))
theorem hdA_nil {b R n i : Nat} (h : i < R) : hdA b R n i [] = rowsC b 2 n i ++ nilL (R - i) := by unfold hdA; rw [nilL_at h]; rfl
theorem hdA_len {b R n i : Nat} {xs : List Int} (h : i < R) : (hdA b R n i xs).length = R := by
  unfold hdA; rw [List.length_append, rowsC_len, List.length_cons]; unfold nilL; rw [List.length_replicate]; omega
theorem hdA_at {b R n i : Nat} {xs : List Int} : (hdA b R n i xs).drop i = accC 1000 2 xs :: nilL (R - (i + 1)) := by
  unfold hdA; rw [List.drop_left' rowsC_len]
theorem hdA_set {R n i : Nat} {xs : List Int} {c : C} : ((hdA 900100 R n i xs).map (jC 1000)).take i ++ c :: ((hdA 900100 R n i xs).map (jC 1000)).drop (i + 1) = rowsC 900100 2 n i ++ c :: nilL (R - (i + 1)) := by
  unfold hdA
  rw [List.map_append, List.map_cons, rowsC_jC (fun j _ => by omega), nilL_map (fun _ => rfl), List.take_left' rowsC_len, List.drop_append, rowsC_len, List.drop_eq_nil_of_le (by rw [rowsC_len]; omega), List.nil_append, show i + 1 - i = 1 by omega]
  rfl
theorem hdA_refs {R n i : Nat} {xs : List Int} {D : List Nat} (h1 : ∀ j, j < i → 900100 + j ∈ D) (h2 : xs = [] ∨ 1000 ∈ D) : (hdA 900100 R n i xs).all (refsC D) = true := by
  unfold hdA
  rw [List.all_append, rowsC_refs' h1, List.all_cons, nilL_refs]
  rcases h2 with rfl | h2
  · rfl
  · have : refsC D (accC 1000 2 xs) = true := by
      cases xs with
      | nil => rfl
      | cons x xs => show D.contains 1000 = true; rw [List.contains_iff_mem]; exact h2
    rw [this]; rfl
/-- A row is finished: it gets its own name. -/
theorem hdA_mv {R n i : Nat} {xs : List Int} (hx : xs ≠ []) (hl : xs.length = n) : (hdA 900100 R n i xs).map (rnC (mvN 1000 (900100 + i))) = rowsC 900100 2 n (i + 1) ++ nilL (R - (i + 1)) := by
  unfold hdA
  rw [List.map_append, List.map_cons, rowsC_rn (fun j hj => by show (if 900100 + j = 1000 then _ else _) = _; rw [if_neg (by omega)]), nilL_map (fun _ => rfl), ← rowsC_succ, List.append_assoc]
  have : rnC (mvN 1000 (900100 + i)) (accC 1000 2 xs) = .vec (900100 + i) 2 0 n := by
    cases xs with
    | nil => exact (hx rfl).elim
    | cons x xs =>
      rw [← hl]
      show C.vec (if 1000 = 1000 then 900100 + i else 1000) 2 0 _ = _
      rw [if_pos rfl]
  rw [this]; rfl
theorem acc_mem {b : Nat} {xs : List Int} {y : Int} {D D' : List Nat} : b ∈ D ++ (accD b (xs ++ [y]) ++ D') := by
  refine List.mem_append_right _ (List.mem_append_left _ ?_)
  cases xs <;> simp [accD]
theorem fam_mem {b n : Nat} {D : List Nat} : ∀ j, j < n → b + j ∈ famD b n ++ D := fun j hj => List.mem_append_left _ (List.mem_map.2 ⟨j, List.mem_range.2 hj, rfl⟩)
theorem dlt_one {i : Nat} : dlt i i = 1 := if_pos rfl
theorem dlt_zero {i j : Nat} (h : i ≠ j) : dlt i j = 0 := if_neg h
set_option maxRecDepth 100000 in
theorem r_Unit (n : Nat) (hn : n < 40000) : PCall Tryz.prog 17 [tI .i64 n] (.one (eW (rawM n n dlt))) := by
  have o1 : PCall Tryz.prog 13 [tI .i64 1] (eI 1) := i_Of 1 (by decide) (by decide)
  refine pcall_of_wpA mixed Tryz.call17 Tryz.func17 rfl Tryz.ntmps17 Tryz.results17 (by simp) (by decide) ?_
  simp only [go_sem]
  (repeat (refine And.intro (by omega) ?_))
  have hz : (cJ 0).map C.t = [C.t (T.lit (Value.bool false)), C.t (T.seq none [])] := by show [C.t (.lit (.bool (decide ((0 : Int) < 0)))), C.t (eN (dig 0))] = _; rw [dig_zero]; rfl
  obtain ⟨g0, hg0⟩ : ∃ g0 : Nat → List Int, g0 = fun q => fnG n (dlt q) := ⟨_, rfl⟩
  refine loop_inv (fun i : Nat => stL 35 [(0, litI .i64 n), (3, .one (.vec 8 1 0 n)), (4, litI .i64 i)]
      (famE 900100 cJ g0 i ++ [(8, rowsC 900100 2 n i ++ nilL (n - i))])) (fun i => i ≤ n) (fun i => n - i) 0 ?_ (Nat.zero_le _) ?_
  · rw [Nat.sub_zero]
    (refine gstep_list rfl ?_ ?_ ?_ ?_ <;> (try simp only [go_sem, tail_one, nilL_repl, nilL_refs]) <;> (try simp only [true_or, or_true, or_false, beq_self_eq_true, and_self, true_and, and_true]))
    · exact ⟨fun q hq => by omega, rfl⟩
    · exact nilL_refs
  · intro i hi
    simp only [go_sem]
    refine CondR_if (fun hlt => ?_) (fun hge => ?_)
    · have hlt' : i < n := by omega
      have hh : rowsC 900100 2 n i ++ nilL (n - i) = hdA 900100 n n i (fnG 0 (dlt i)) := (hdA_nil hlt').symm
      rw [hh]
      simp only [go_sem]
      refine loop_inv (fun j : Nat => stL 35 [(0, litI .i64 n), (3, .one (.vec 8 1 0 n)), (4, litI .i64 i), (5, litI .i64 j)]
        (famE 900100 cJ g0 i ++ (accE 1000 cJ (fnG j (dlt i)) ++ [(8, hdA 900100 n n i (fnG j (dlt i)))]))) (fun j => j ≤ n) (fun j => n - j) 0 ?_ (Nat.zero_le _) ?_
      · rw [fnG_zero]
        (refine gstep_list rfl ?_ ?_ ?_ ?_ <;> (try simp only [go_sem, tail_one]) <;> (try simp only [true_or, or_true, or_false, beq_self_eq_true, and_self, true_and, and_true]))
        · exact fun q hq => by rw [if_pos ⟨by omega, hq⟩]
        · exact hdA_refs (fun j hj => List.mem_append_left _ (List.mem_map.2 ⟨j, List.mem_range.2 hj, rfl⟩)) (.inl rfl)
      · intro j hj
        simp only [go_sem]
        refine CondR_if (fun hlj => ?_) (fun hgj => ?_)
        · have hlj' : j < n := by omega
          have hlen := hdA_len (b := 900100) (n := n) (xs := fnG j (dlt i)) hlt'
          have hat := hdA_at (b := 900100) (n := n) (R := n) (i := i) (xs := fnG j (dlt i))
          have hsu := fnG_succ (n := j) (g := dlt i)
          have hxl : (fnG j (dlt i)).length = j := fnG_len
          have hiI : ((i : Int) < (n : Int)) = True := eq_true (by omega)
          have hlenj : ∀ c, ((hdA 900100 n n i (fnG j (dlt i))).map (jC c)).length = n := fun c => by rw [List.length_map]; exact hlen
          have hset := fun c => hdA_set (R := n) (n := n) (i := i) (xs := fnG j (dlt i)) (c := c)
          generalize hxs : fnG j (dlt i) = xs at *
          simp only [go_sem]
          by_cases e : i = j
          · have e' : ((i : Int) = (j : Int)) = True := eq_true (by omega)
            have hd : dlt i j = 1 := by rw [e]; exact dlt_one
            rw [hd] at hsu
            simp only [go_sem, e']
            ((repeat (refine regA_by 0 rfl ?_; simp only [go_sem])); refine call_pure (o1) rfl ?_; simp only [go_sem]; (repeat (refine regA_by 0 rfl ?_; simp only [go_sem])))
            refine regA_any 11 rfl ?_
            refine AnyS.take' 0 rfl (by decide +kernel) (by decide +kernel) (by decide +kernel) (by simp only [go_sem]) (pureAt_move rfl) ?_
            refine AnyS.take' 1 rfl (by decide +kernel) (by decide +kernel) (by decide +kernel) (by simp only [go_sem]) (pureAt_move rfl) ?_
            refine AnyS.ord [0, 1] 0 [2, 3, 4, 5, 6, 7, 8, 9, 10] (by decide +kernel) (by decide +kernel) (by decide +kernel) (by decide +kernel) (by decide +kernel) (by decide) ?_
            simp only [opsAt, List.filterMap_cons, List.filterMap_nil, List.getElem?_toArray, List.getElem?_cons_succ, List.getElem?_cons_zero]
            simp only [go_sem, hat, hlen, hiI, fam9, fam10]
            (repeat (refine And.intro (by omega) ?_))
            refine opA_app_acc (sz := 2) (bytes := 32) (by simp only [go_sem, AppTy] <;> decide) cJ_len xs [1] (b := 1000) (by simp only [go_sem] <;> rfl) (by simp only [go_sem, fam9, fam10] <;> rfl) (by simp only [go_sem] <;> rfl) rfl (by simp) (by simp only [List.length_cons, List.length_nil] at *; omega) (by decide) ?_
            simp only [go_sem, hlen, hlenj, hiI, fam9, fam10, hset]
            (repeat (refine And.intro (by omega) ?_))
            refine ⟨j + 1, hlj', (by show n - (j + 1) < n - j; omega), ?_⟩
            (refine gstep_list rfl ?_ ?_ ?_ ?_ <;> (try simp only [go_sem, tail_one, hsu, hset, fam9, fam10, cellsL_refs, wrap_i64 (n := (j : Int) + 1) (by omega) (by omega)]) <;> (try simp only [true_or, or_true, or_false, beq_self_eq_true, and_self, true_and, and_true]))
            · exact ⟨fun q hq => by rw [if_pos ⟨by omega, hq⟩]; show some (List.map _ _) = _; rw [jC_cells], rfl⟩
            · exact Bool.or_true _
            · exact hdA_refs fam_mem (.inr acc_mem)
          · have e' : ((i : Int) = (j : Int)) = False := eq_false (by omega)
            have hd : dlt i j = 0 := dlt_zero e
            rw [hd] at hsu
            simp only [go_sem, e']
            refine regA_any 11 rfl ?_
            refine AnyS.weaken (gstep_weakH 6 (cs := [C.t (T.lit (Value.bool false)), C.t (T.seq (some true) [])]) (cs' := (cJ 0).map .t) (by simp only [go_sem]) (by rw [hz]; exact .cons .refl (.cons .seq .nil))) ?_
            refine AnyS.take' 0 rfl (by decide +kernel) (by decide +kernel) (by decide +kernel) (by simp only [go_sem]) (pureAt_move rfl) ?_
            refine AnyS.take' 1 rfl (by decide +kernel) (by decide +kernel) (by decide +kernel) (by simp only [go_sem]) (pureAt_move rfl) ?_
            refine AnyS.ord [0, 1] 0 [2, 3, 4, 5, 6, 7, 8, 9, 10] (by decide +kernel) (by decide +kernel) (by decide +kernel) (by decide +kernel) (by decide +kernel) (by decide) ?_
            simp only [opsAt, List.filterMap_cons, List.filterMap_nil, List.getElem?_toArray, List.getElem?_cons_succ, List.getElem?_cons_zero]
            simp only [go_sem, hat, hlen, hiI, fam9, fam10]
            (repeat (refine And.intro (by omega) ?_))
            refine opA_app_acc (sz := 2) (bytes := 32) (by simp only [go_sem, AppTy] <;> decide) cJ_len xs [0] (b := 1000) (by simp only [go_sem] <;> rfl) (by simp only [go_sem, fam9, fam10] <;> rfl) (by simp only [go_sem] <;> rfl) rfl (by simp) (by simp only [List.length_cons, List.length_nil] at *; omega) (by decide) ?_
            simp only [go_sem, hlen, hlenj, hiI, fam9, fam10, hset]
            (repeat (refine And.intro (by omega) ?_))
            refine ⟨j + 1, hlj', (by show n - (j + 1) < n - j; omega), ?_⟩
            (refine gstep_list rfl ?_ ?_ ?_ ?_ <;> (try simp only [go_sem, tail_one, hsu, hset, fam9, fam10, cellsL_refs, wrap_i64 (n := (j : Int) + 1) (by omega) (by omega)]) <;> (try simp only [true_or, or_true, or_false, beq_self_eq_true, and_self, true_and, and_true]))
            · exact ⟨fun q hq => by rw [if_pos ⟨by omega, hq⟩]; show some (List.map _ _) = _; rw [jC_cells], rfl⟩
            · exact Bool.or_true _
            · exact hdA_refs fam_mem (.inr acc_mem)
        · obtain rfl : j = n := by omega
          have hne := fnG_ne (g := dlt i) (show j ≠ 0 by omega)
          have hmv := hdA_mv (R := j) (i := i) (n := j) hne fnG_len
          have hem := isEmpty_fn (g := dlt i) (n := j)
          rw [show (j == 0) = false from beq_false_of_ne (by omega)] at hem
          have hacc : ∀ o, accH cJ (fnG j (dlt i)) o = some (cellsL cJ (fnG j (dlt i))) := fun o => by
            cases e : fnG j (dlt i) with
            | nil => exact (hne e).elim
            | cons _ _ => rfl
          generalize hxs : fnG j (dlt i) = xs at *
          simp only [go_sem]
          refine ⟨i + 1, hlt', (by show j - (i + 1) < j - i; omega), ?_⟩
          refine GStep.trans (gstep_mv (b := 1000) (b' := 900100 + i) (by simp only [go_sem, fam9, fam10] <;> simp) (by show _ < 1000000; omega) (by omega)) ?_
          (refine gstep_list rfl ?_ ?_ ?_ ?_ <;> (try simp only [go_sem, tail_one, cellsL_refs, fam9, fam10, hmv, hacc, nilL_refs, wrap_i64 (n := (i : Int) + 1) (by omega) (by omega)]) <;> (try simp only [true_or, or_true, or_false, beq_self_eq_true, and_self, true_and, and_true]))
          · intro q hq
            by_cases e : q = i
            · rw [if_pos e, e, hg0]; show some _ = some (cellsL cJ (fnG j (dlt i))); rw [hxs]
            · rw [if_neg e, if_pos ⟨by omega, by omega⟩]; show some (List.map _ _) = _; rw [rnC_cells]
          · rw [List.all_append, rowsC_refs' fam_mem, nilL_refs]; rfl
    · obtain rfl : i = n := by omega
      simp only [go_sem]
      rw [Nat.sub_self, show nilL 0 = [] from rfl, List.append_nil]
      exact fz_mat (b := 900100) (by simp only [go_sem]) fun q hq => by rw [lookH_fam_at hq, hg0]
end Go.Proofs.YtjmbhknhiakkpaaGreat
namespace Go.Proofs.YtjmbhknhiakkpaaGreat
open Go Go.Abs
set_option maxHeartbeats 8000000
/-! ### Bounds of small matrices -/
theorem lN_pow {z : Int} {e : Nat} (h : z.natAbs ≤ 2 ^ e) : lN z ≤ e / 29 + 1 := by
  refine lN_of (Nat.lt_of_le_of_lt h ?_)
  have e1 : 2 ^ (29 * (e / 29 + 1)) ≤ BB ^ (e / 29 + 1) := by rw [Nat.pow_mul]; exact Nat.pow_le_pow_left (by decide) _
  exact Nat.lt_of_lt_of_le (Nat.pow_lt_pow_right (by decide) (by omega)) e1
theorem lb_of {n R e : Nat} {S : HX} (hB : BdH n R (2 ^ e) S) (hn : S.n = n) (hR : S.R = R) : LB (e / 29 + 1) S :=
  ⟨fun r c h1 h2 => lN_pow (hB.h r c (by omega) (by omega)), fun r c h1 h2 => lN_pow (hB.u r c (by omega) (by omega)), fun r c h1 h2 => lN_pow (hB.v r c (by omega) (by omega))⟩
theorem lbrow_of {n R e r k : Nat} {S : HX} (h : BdRow n R (2 ^ e) S r k) (hn : S.n = n) (hR : S.R = R) : LBrow (e / 29 + 1) S r k (fuE S r k) := by
  have hd := fun t => itE_dim (S := S) (r := r) (k := k) t
  refine ⟨h.stop, h.go, fun t _ => lb_of (h.it t) ((hd t).1.trans hn) ((hd t).2.trans hR), fun t p m _ hp hm => ?_, fun p hp => lb_of (h.piv _ p hp) ((hd _).1.trans hn) ((hd _).2.trans hR), fun p m hp hm => ?_⟩
  · have h2 := redH_dim (S := (itE S r k t).swap p k) (r := r) (k := k) m
    exact lb_of (h.red t p m hp (by omega)) (h2.1.trans ((hd t).1.trans hn)) (h2.2.trans ((hd t).2.trans hR))
  · have h2 := lefH_dim (S := pivH (itE S r k (fuE S r k)) r k p) (r := r) (k := k) m
    have h3 := sgnH_dim (S := (itE S r k (fuE S r k)).swap p k) (r := r) (k := k)
    exact lb_of (h.lef _ p m hp hm) (h2.1.trans (h3.1.trans ((hd _).1.trans hn))) (h2.2.trans (h3.2.trans ((hd _).2.trans hR)))
theorem FW.LR {a : List (List RI)} (h : FW a) : ∀ r ∈ a, LR 3 r := fun r hr => ⟨by have := (h.1 r hr).1; omega, fun p hp => Nat.le_trans ((h.1 r hr).2 p hp) (by decide)⟩
theorem nat_of_lN {z : Int} {k : Nat} (h : lN z ≤ k) : z.natAbs ≤ 2 ^ (30 * k) := by
  have h1 := lt_lN z
  have h2 : BB ^ lN z ≤ BB ^ k := Nat.pow_le_pow_right (by decide) h
  have h3 : BB ^ k ≤ 2 ^ (30 * k) := by rw [Nat.pow_mul]; exact Nat.pow_le_pow_left (by decide) _
  omega
theorem atW_nat {a : List (List RI)} (h : ∀ r ∈ a, LR 3 r) (i j : Nat) : (atW a i j).natAbs ≤ 2 ^ 96 := by
  have : lN (atW a i j) ≤ 3 := by
    by_cases c : i < a.length
    · rw [atW_lt c]; exact (h _ (List.getElem_mem c)).at j
    · rw [atW_ge (by omega)]; unfold lN; simp [dig_zero]
  exact Nat.le_trans (nat_of_lN this) (by decide)
theorem few_made {a : List (List RI)} (h : ∀ r ∈ a, LR 3 r) {n : Nat} (hn : n ≤ 6) : LBmade (eeB n / 29 + 1) (atW a) n a.length := fun r hr => by
  have hd := madeS_dim (a := atW a) (n := n) (R := a.length) r
  exact lbrow_of ((made_bd hn (fun i j _ _ => atW_nat h i j) a.length (Nat.le_refl _)).2 r hr) hd.1 hd.2
theorem eeB5 : eeB 5 = 309052631 := by decide
theorem eeB6 : eeB 6 = 6181052631 := by decide
theorem LBmade.mono {K K' n R : Nat} {a : Nat → Nat → Int} (h : LBmade K a n R) (hk : K ≤ K') : LBmade K' a n R := fun r hr => by
  have h1 := h r hr
  have up : ∀ {S}, LB K S → LB K' S := fun {S} h => ⟨fun r c a b => Nat.le_trans (h.h r c a b) hk, fun r c a b => Nat.le_trans (h.u r c a b) hk, fun r c a b => Nat.le_trans (h.v r c a b) hk⟩
  exact ⟨h1.stop, h1.go, fun t ht => up (h1.it t ht), fun t p m a b c => up (h1.red t p m a b c), fun p a => up (h1.piv p a), fun p m a b => up (h1.lef p m a b)⟩
theorem few_made6 {a : List (List RI)} (h : ∀ r ∈ a, LR 3 r) {n : Nat} (hn : n ≤ 6) : LBmade 213200000 (atW a) n a.length := (few_made h hn).mono (by
  have := eeB_mono hn; rw [eeB6] at this; omega)
theorem few_made5 {a : List (List RI)} (h : ∀ r ∈ a, LR 3 r) {n : Nat} (hn : n ≤ 5) : LBmade 10700000 (atW a) n a.length := (few_made h (by omega)).mono (by
  have := eeB_mono hn; rw [eeB5] at this; omega)
/-- The form's bounds. -/
theorem few_out {a : List (List RI)} (h : ∀ r ∈ a, LR 3 r) {n : Nat} (hn : n ≤ 6) : LB (eeB n / 29 + 1) (madeS (atW a) n a.length a.length).1 := by
  have hd := madeS_dim (a := atW a) (n := n) (R := a.length) a.length
  have hk := madeS_le (a := atW a) (n := n) (R := a.length) a.length
  exact lb_of (((made_bd hn (fun i j _ _ => atW_nat h i j) a.length (Nat.le_refl _)).1).mono (Nat.pow_le_pow_right (by decide) (eeB_mono hk.1))) hd.1 hd.2
theorem lQ_frac {N : Int} {D : Nat} {e : Nat} (hN : N.natAbs ≤ 2 ^ e) (hD : D ≤ 2 ^ e) : lQ ((N : Rat) / ((D : Int) : Rat)) ≤ e / 29 + 1 := by
  rw [← Rat.divInt_eq_div]
  have h1 := lQ_divInt N (D : Int)
  have h2 := lN_pow hN
  have h3 : lN (D : Int) ≤ e / 29 + 1 := lN_pow (by omega)
  omega
theorem few_sol {a : List (List RI)} {b : List RI} (ha : ∀ r ∈ a, LR 3 r) (hb : LR 3 b) {n : Nat} (hn : n ≤ 5) (hR : a.length ≤ 6) (Tb : Nat) {S : HX} (hS : S = (madeS (atW a) n a.length a.length).1) {pv : Nat → Int} (hpv : pv = pvS (atW a) n a.length) {kk : Nat → Nat} (hkk : kk = fun r => (madeS (atW a) n a.length r).2) :
    LBsol S pv kk (atR b) n a.length Tb 10700000 140000000 := by
  obtain ⟨R, hRe⟩ : ∃ R, R = a.length := ⟨_, rfl⟩
  have hW := fun (i j : Nat) (_ : i < a.length) (_ : j < n) => atW_nat ha i j
  have hbd := (made_bd (by omega) hW a.length (Nat.le_refl _)).1
  have hrow := fun i hi => made_row (a := atW a) (n := n) (R := a.length) (by omega) hW (r := i) hi a.length hi (Nat.le_refl _)
  have hkle := fun r => madeS_le (a := atW a) (n := n) (R := a.length) r
  have hcs : ∀ r, (pv r = -1 ∧ kk (r + 1) = kk r) ∨ (pv r = (kk r : Int) ∧ kk (r + 1) = kk r + 1) := fun r => by rw [hpv, hkk]; exact pvS_cases
  have hk' : ∀ r, kk r ≤ n ∧ kk r ≤ r := fun r => by rw [hkk]; exact hkle r
  rw [← hS] at hbd
  have hrow' : ∀ i, i < a.length → 0 ≤ pv i → 0 < S.h i (kk i) ∧ pv i = (kk i : Int) ∧ kk i < n := fun i hi hp => by
    have h1 := hrow i hi
    have h2 := hcs i
    rw [← hS] at h1
    have h3 : kk i = (madeS (atW a) n a.length i).2 := by rw [hkk]
    have h4 : kk (i + 1) = (madeS (atW a) n a.length (i + 1)).2 := by rw [hkk]
    rw [← h3, ← h4] at h1
    rcases h1 with ⟨h1, _⟩ | ⟨h1, h5, h6, _⟩
    · rcases h2 with ⟨h2, _⟩ | ⟨_, h2⟩ <;> omega
    · exact ⟨h6, by rcases h2 with ⟨h2, _⟩ | ⟨h2, _⟩ <;> omega, h5⟩
  obtain ⟨e, he⟩ : ∃ e, e = 309052631 := ⟨_, rfl⟩
  have hle : eeB ((madeS (atW a) n a.length a.length).2) ≤ e := by
    have h1 := eeB_mono (Nat.le_trans (hkle a.length).1 hn)
    rw [eeB5] at h1; omega
  have hbd := hbd.mono (Nat.pow_le_pow_right (by decide) hle)
  have hHh : ∀ r c, r < a.length → c < n → (S.h r c).natAbs ≤ 2 ^ e := hbd.h
  have hy := ySol_bd (S := S) (pv := pv) (kk := kk) (b := atR b) (n := n) (R := a.length) (H := 2 ^ e) (B := 2 ^ 96) hHh (fun r => Nat.le_trans (nat_of_lN (hb.at r)) (by decide)) (by omega) (Nat.pow_pos (by decide)) (by decide) (fun r => (hk' r).1) (by rw [hkk]; rfl) (fun r hr => by
    rcases hcs r with ⟨h1, h2⟩ | ⟨h1, h2⟩
    · exact .inl ⟨by omega, h2⟩
    · exact .inr ⟨by omega, h2⟩)
  have hpw : ∀ m, m ≤ 6 → 2 ^ 96 * (16 * 2 ^ e) ^ m ≤ 2 ^ (96 + (e + 4) * 6) := fun m hm => by
    have e1 : 16 * 2 ^ e = 2 ^ (e + 4) := by rw [Nat.pow_add, Nat.mul_comm]
    rw [e1, ← Nat.pow_mul, ← Nat.pow_add]
    exact Nat.pow_le_pow_right (by decide) (Nat.add_le_add_left (Nat.mul_le_mul_left _ hm) _)
  have hlm : (96 + (e + 4) * 6) / 29 + 1 ≤ 63941930 := by omega
  have hyl : ∀ r, r ≤ a.length → ∀ j, lN (ySol S pv kk (atR b) r j) ≤ 63941930 := fun r hr j => by
    have h1 := (hy r hr).1 j
    have h2 := hpw (kk r) (by have := hk' r; omega)
    have := lN_pow (Nat.le_trans h1 h2)
    omega
  have hll : ∀ r, r < a.length → lN (leftS S pv kk (atR b) r) ≤ 63941930 := fun r hr => by
    have h1 := (hy r (by omega)).2 hr
    have h2 := hpw (kk r + 1) (by have := hk' r; omega)
    have := lN_pow (Nat.le_trans (show (leftS S pv kk (atR b) r).natAbs ≤ _ by omega) h2)
    omega
  have hhl : ∀ r c, r < a.length → c < n → lN (S.h r c) ≤ 10700000 := fun r c h1 h2 => by have := lN_pow (hHh r c h1 h2); omega
  have hof : Tb < a.length → lQ (oftS S pv kk (atR b) Tb) ≤ 63941931 := fun hT => by
    have l1 : lN 1 ≤ 1 := lN_small (by omega)
    unfold oftS
    split
    · have h1 := lQ_divInt 1 (leftS S pv kk (atR b) Tb + leftS S pv kk (atR b) Tb)
      have h2 := lN_add (leftS S pv kk (atR b) Tb) (leftS S pv kk (atR b) Tb)
      have h3 := hll Tb hT
      omega
    · rename_i hp
      have h1 := lQ_divInt 1 (S.h Tb (kk Tb))
      have h2 := hrow' Tb hT (by omega)
      have h3 := hhl Tb (kk Tb) hT h2.2.2
      omega
  refine ⟨hhl, fun r c h1 h2 => by have := lN_pow (hbd.u r c h1 h2); omega, fun r hr j => by have := hyl r hr j; omega, fun r hr => by have := hll r hr; omega, fun hT => by have := hof hT; omega, fun hT => ?_⟩
  -- how often rows go into the sum
  obtain ⟨q0, hq⟩ : ∃ q0, q0 = oftS S pv kk (atR b) Tb := ⟨_, rfl⟩
  rw [← hq]
  have hq0 := hof hT
  rw [← hq] at hq0
  obtain ⟨kq, hkq⟩ : ∃ kq, kq = 63941931 := ⟨_, rfl⟩
  obtain ⟨f, hf⟩ : ∃ f, f = 30 * kq := ⟨_, rfl⟩
  have hA0 : q0.num.natAbs ≤ 2 ^ f := by
    have h1 := lQ_num q0
    have := nat_of_lN (z := q0.num) (k := kq) (by omega)
    rw [hf]; exact this
  have hD0 : q0.den ≤ 2 ^ f := by
    have h1 := lQ_den q0
    have := nat_of_lN (z := (q0.den : Int)) (k := kq) (by omega)
    rw [hf]; omega
  have hfr := rs_frac (S := S) (pv := pv) (r := Tb) (q0 := q0) (H := 2 ^ e) (by omega) (Nat.pow_pos (by decide)) (fun i j hi hj hp => by
    obtain ⟨h1, h2, h3⟩ := hrow' i (by omega) hp
    rw [h2, Int.toNat_natCast]; exact hHh j (kk i) (by omega) h3) (fun i hi hp => by
    obtain ⟨h1, h2, h3⟩ := hrow' i (by omega) hp
    rw [h2, Int.toNat_natCast]; exact h1) hA0 hD0
  obtain ⟨g, hg⟩ : ∃ g, g = f + (e + 3) * 6 + 3 := ⟨_, rfl⟩
  have hg2 : g / 29 + 1 ≤ 140000000 := by omega
  have hDg : ∀ t, t ≤ 5 → 2 ^ f * (2 ^ e) ^ t ≤ 2 ^ g := fun t ht => by
    rw [← Nat.pow_mul, ← Nat.pow_add]
    refine Nat.pow_le_pow_right (by decide) ?_
    have : e * t ≤ e * 5 := Nat.mul_le_mul_left _ ht
    omega
  have hAg : ∀ t, t ≤ 5 → 2 ^ f * (7 * 2 ^ e) ^ t ≤ 2 ^ (f + (e + 3) * 5) := fun t ht => by
    have h1 : 7 * 2 ^ e ≤ 2 ^ (e + 3) := by rw [Nat.pow_add]; omega
    refine Nat.le_trans (Nat.mul_le_mul_left _ (Nat.pow_le_pow_left h1 t)) ?_
    rw [← Nat.pow_mul, ← Nat.pow_add]
    exact Nat.pow_le_pow_right (by decide) (Nat.add_le_add_left (Nat.mul_le_mul_left _ ht) _)
  have hAg2 : 6 * (2 ^ e * 2 ^ (f + (e + 3) * 5)) ≤ 2 ^ g := by
    have : 2 ^ g = 2 ^ (f + (e + 3) * 5) * (2 ^ e * 64) := by
      rw [hg, show (64 : Nat) = 2 ^ 6 from rfl, ← Nat.pow_add, ← Nat.pow_add]
      congr 1; omega
    rw [this, Nat.mul_comm (2 ^ (f + (e + 3) * 5)) _, Nat.mul_right_comm, Nat.mul_comm 6]
    exact Nat.mul_le_mul_left _ (by decide)
  have hAg3 : 2 ^ (f + (e + 3) * 5) ≤ 2 ^ g := Nat.pow_le_pow_right (by decide) (by omega)
  refine ⟨fun t ht j hj => ?_, fun t ht hp d hd => ?_⟩
  · obtain ⟨D, A, h1, h2, h3, h4⟩ := hfr t ht
    rw [h3]
    have := lQ_frac (Nat.le_trans (Nat.le_trans (h4 j) (hAg t (by omega))) hAg3) (Nat.le_trans h2 (hDg t (by omega)))
    omega
  · obtain ⟨D, A, h1, h2, h3, h4⟩ := hfr t (by omega)
    obtain ⟨g1, g2, g3⟩ := hrow' (Tb - 1 - t) (by omega) hp
    have hsum : smQ (fun d => rsF S pv Tb q0 t (Tb - t + d) * (S.h (Tb - t + d) (pv (Tb - 1 - t)).toNat : Rat)) d = ((smI (fun d => A (Tb - t + d) * S.h (Tb - t + d) (pv (Tb - 1 - t)).toNat) d : Int) : Rat) / ((D : Int) : Rat) := by
      rw [← smQ_frac]
      exact smQ_congr fun d _ => by rw [h3]
    rw [hsum]
    have hsb := smI_abs (f := fun d => A (Tb - t + d) * S.h (Tb - t + d) (pv (Tb - 1 - t)).toNat) (K := 2 ^ e * 2 ^ (f + (e + 3) * 5)) (n := d) fun c hc => by
      rw [Int.natAbs_mul, Nat.mul_comm]
      refine Nat.mul_le_mul ?_ (Nat.le_trans (h4 _) (hAg t (by omega)))
      rw [g2, Int.toNat_natCast]; exact hHh _ _ (by omega) g3
    have hsb2 : d * (2 ^ e * 2 ^ (f + (e + 3) * 5)) ≤ 6 * (2 ^ e * 2 ^ (f + (e + 3) * 5)) := Nat.mul_le_mul_right _ (by omega)
    have := lQ_frac (Nat.le_trans hsb (Nat.le_trans hsb2 hAg2)) (Nat.le_trans h2 (hDg t (by omega)))
    omega
end Go.Proofs.YtjmbhknhiakkpaaGreat
namespace Go.Proofs.YtjmbhknhiakkpaaGreat
open Go Go.Abs
set_option maxHeartbeats 32000000
theorem prW_raw {R m n : Nat} {g g' : Nat → Nat → Int} {i j : Nat} (hi : i < R) (hj : j < n) : prW (rawM R m g) (rawM m n g') i j = smI (fun k => g i k * g' k j) m := by
  unfold prW
  rw [List.getElem?_eq_getElem (by rw [rawM_len]; exact hi)]
  have e : (rawM R m g)[i]'(by rw [rawM_len]; exact hi) = fnG m fun j => encJ (g i j) := fnG_get _
  show smI (fun k => atR ((rawM R m g)[i]'_) k * atW (rawM m n g') k j) (min ((rawM R m g)[i]'_).length _) = _
  rw [e, fnG_len, rawM_len, Nat.min_self]
  exact smI_congr fun k hk => by rw [atW_raw hk hj, atR_lt (by rw [fnG_len]; exact hk), fnG_get, vR_enc]
theorem LR_raw {R n K : Nat} {g : Nat → Nat → Int} (hn : n < 1000000) (h : ∀ i j, i < R → j < n → lN (g i j) ≤ K) : ∀ r ∈ rawM R n g, LR K r := fun r hr => by
  obtain ⟨i, hi, rfl⟩ := fnG_mem hr
  exact LR_row hn fun c hc => h i c hi hc
def gK (i j : Nat) : Int := if i = 0 then (if j = 0 then 4 else if j = 1 then 6 else 0) else 0
def aK : List (List RI) := [[encJ 4, encJ 6]]
theorem aK_at : atW aK = gK := by
  funext i j
  unfold gK aK
  match i, j with
  | 0, 0 => exact vR_enc 4
  | 0, 1 => exact vR_enc 6
  | 0, j + 2 => rfl
  | i + 1, j => rfl
theorem enc_small {z : Int} (h : z.natAbs < 1000000000) : (encJ z).2.length ≤ 1 := lN_small h
theorem aK_LR : ∀ r ∈ aK, LR 3 r := fun r hr => by
  obtain rfl := List.mem_singleton.1 hr
  refine ⟨by decide, fun p hp => ?_⟩
  rcases List.mem_cons.1 hp with rfl | hp
  · have := enc_small (z := 4) (by decide); omega
  · obtain rfl := List.mem_singleton.1 hp
    have := enc_small (z := 6) (by decide); omega
theorem kS_h0 : (madeS gK 2 1 1).1.h 0 0 = 2 := by decide +kernel
theorem kS_h1 : (madeS gK 2 1 1).1.h 0 1 = 0 := by decide +kernel
theorem kS_p : pvS gK 2 1 0 = 0 := by decide +kernel
theorem one_LR {z : Int} (h : z.natAbs < 1000000000) : LR 3 [encJ z] := ⟨by show 1 < 1000000000; decide, fun p hp => by
  obtain rfl := List.mem_singleton.1 hp
  have := enc_small h; omega⟩
theorem eL_cJ {l : List Int} : eL cJ l = eL cI (l.map encJ) := by unfold eL; rw [List.map_map]; rfl
theorem tw_row {r : List RI} : TW (.seq (some false) (r.map cI)) (eL cI r) := .weak
theorem tw_mat {nl : Option Bool} {l : List T} {a : List (List RI)} (h : TWs l (a.map (eL cI))) : TW (.seq nl (l.map fun x => [x])) (eW a) := by
  refine TW.list (.inr rfl) ?_
  induction a generalizing l with
  | nil => cases h; exact .nil
  | cons r a ih =>
    cases h with
    | cons h1 h2 => exact .cons (.cons h1 .nil) (ih h2)
set_option maxRecDepth 100000 in
theorem known20 : PCall Tryz.prog 4 [] (tB true) := by
  obtain ⟨S, hS⟩ : ∃ S, S = (madeS (atW aK) 2 aK.length aK.length).1 := ⟨_, rfl⟩
  have hSd := madeS_dim (a := atW aK) (n := 2) (R := aK.length) aK.length
  rw [← hS] at hSd
  have hout := few_out aK_LR (n := 2) (by decide)
  have hee : eeB 2 / 29 + 1 ≤ 2000 := by decide
  rw [← hS] at hout
  have hi := madeS_inv (a := atW aK) (n := 2) (R := aK.length) aK.length
  rw [← hS] at hi
  have hl1 : aK.length = 1 := rfl
  have hh0 : S.h 0 0 = 2 := by rw [hS, aK_at]; exact kS_h0
  have hh1 : S.h 0 1 = 0 := by rw [hS, aK_at]; exact kS_h1
  have hF := h_Form aK 2 (K := 10700000) (L := 3) (by decide) (by decide) (by decide) (by decide) aK_LR (few_made5 aK_LR (by decide)) hS
  rw [hSd.1, hSd.2] at hF
  have e0 : encJ 0 = (false, []) := Prod.ext rfl dig_zero
  have eH : rawM aK.length 2 S.h = [[encJ 2, (false, [])]] := by
    show [[encJ (S.h 0 0), encJ (S.h 0 1)]] = _
    rw [hh0, hh1, e0]
  rw [eH] at hF
  obtain ⟨U, hU⟩ : ∃ U, U = rawM 2 2 S.u := ⟨_, rfl⟩
  obtain ⟨V, hV⟩ : ∃ V, V = rawM 2 2 S.v := ⟨_, rfl⟩
  rw [← hU, ← hV] at hF
  have hUl : ∀ r ∈ U, LR 2000 r := by rw [hU]; exact LR_raw (by decide) fun i j h1 h2 => Nat.le_trans (hout.u i j (by omega) (by omega)) hee
  have hVl : ∀ r ∈ V, LR 2000 r := by rw [hV]; exact LR_raw (by decide) fun i j h1 h2 => Nat.le_trans (hout.v i j (by omega) (by omega)) hee
  have hw : widR V = 2 := by rw [hV]; rfl
  have hM := h_Mul U V (L := 2000) (by decide) hUl hVl (by rw [hw, hU, rawM_len]; decide) (by rw [hV, rawM_len]; decide)
  have hUn : U.length = 2 := by rw [hU, rawM_len]
  rw [hUn, hw] at hM
  have hM1 : rawM 2 2 (prW U V) = rawM 2 2 dlt := rawM_congr fun i j h1 h2 => by rw [hU, hV, prW_raw h1 h2, hi.uv i j h1 h2]; rfl
  rw [hM1] at hM
  have hUt := r_Unit 2 (by decide)
  have hdl : ∀ r ∈ rawM 2 2 dlt, LR 3 r := LR_raw (by decide) fun i j _ _ => by
    have : lN (dlt i j) ≤ 1 := lN_small (by unfold dlt; split <;> decide)
    omega
  have hE2 := tB_of (h_Equal (rawM 2 2 dlt) (rawM 2 2 dlt) (L := 3) (by decide) hdl hdl (by rw [rawM_len]; decide) (by rw [rawM_len]; decide)) rfl
  have hHl : ∀ r ∈ [[encJ 2, (false, [])]], LR 3 r := fun r hr => by
    obtain rfl := List.mem_singleton.1 hr
    refine ⟨by decide, fun p hp => ?_⟩
    rcases List.mem_cons.1 hp with rfl | hp
    · have := enc_small (z := 2) (by decide); omega
    · obtain rfl := List.mem_singleton.1 hp
      exact Nat.zero_le _
  have hE1 := tB_of (h_Equal [[encJ 2, (false, [])]] [[encJ 2, (false, [])]] (L := 3) (by decide) hHl hHl (by decide) (by decide)) rfl
  -- solving
  obtain ⟨pv, hpv⟩ : ∃ pv, pv = pvS (atW aK) 2 aK.length := ⟨_, rfl⟩
  obtain ⟨kk, hkk⟩ : ∃ kk : Nat → Nat, kk = fun r => (madeS (atW aK) 2 aK.length r).2 := ⟨_, rfl⟩
  have hp0 : pv 0 = 0 := by rw [hpv, aK_at]; exact kS_p
  have hk0 : kk 0 = 0 := by rw [hkk]; rfl
  have hlf : ∀ z : Int, leftS S pv kk (atR [encJ z]) 0 = z := fun z => by
    show atR [encJ z] 0 - smI _ (kk 0) = z
    rw [hk0]
    show vR (encJ z) - 0 = z
    rw [vR_enc]; omega
  have hbd : ∀ z : Int, badS S pv kk (atR [encJ z]) 0 ↔ Int.fmod z 2 ≠ 0 := fun z => by
    unfold badS
    rw [hp0, if_neg (by decide), hlf, hk0, hh0]
  have s2 := h_Solve aK [encJ 2] 2 (K := 10700000) (L := 3) (B := 140000000) (by decide) (by decide) (by decide) (by decide) (by decide) aK_LR (one_LR (by decide)) (few_made5 aK_LR (by decide)) hS hpv hkk 1 (by decide) (fun r hr => by
    have : r = 0 := by omega
    subst this
    rw [hbd]; decide) (fun h => by rw [hl1] at h; omega) (few_sol aK_LR (one_LR (by decide)) (by decide) (by decide) 1 hS hpv hkk)
  have s1 := h_Solve aK [encJ 1] 2 (K := 10700000) (L := 3) (B := 140000000) (by decide) (by decide) (by decide) (by decide) (by decide) aK_LR (one_LR (by decide)) (few_made5 aK_LR (by decide)) hS hpv hkk 0 (by decide) (fun r hr => by omega) (fun _ => by rw [hbd]; decide) (few_sol aK_LR (one_LR (by decide)) (by decide) (by decide) 0 hS hpv hkk)
  unfold solT at s1 s2
  rw [if_neg (by rw [hl1]; omega)] at s2
  rw [if_pos (by rw [hl1]; omega)] at s1
  obtain ⟨X, hX⟩ : ∃ X, X = fnG 2 (xSol S pv kk (atR [encJ 2]) 2 aK.length) := ⟨_, rfl⟩
  have hXl : X.length = 2 := by rw [hX, fnG_len]
  rw [← hX] at s2
  obtain ⟨f, hf⟩ : ∃ f, f = fnG aK.length (rsF S pv 0 (oftS S pv kk (atR [encJ 1]) 0) 0) := ⟨_, rfl⟩
  have hfl : f.length = 1 := by rw [hf, fnG_len]; rfl
  rw [← hf] at s1
  -- the calls as they are made
  obtain ⟨z4, h4⟩ : ∃ z : Int, z = 4 := ⟨_, rfl⟩
  obtain ⟨z6, h6⟩ : ∃ z : Int, z = 6 := ⟨_, rfl⟩
  obtain ⟨z2, h2⟩ : ∃ z : Int, z = 2 := ⟨_, rfl⟩
  obtain ⟨z1, h1⟩ : ∃ z : Int, z = 1 := ⟨_, rfl⟩
  have eA : aK = [[encJ z4, encJ z6]] := by rw [h4, h6]; rfl
  have tA : TVW (.one (.seq (some false) [[.seq (some false) [cJ z4, cJ z6]]])) (.one (eW aK)) := by rw [eA]; exact .one (TW.list (.inr rfl) (.cons (.cons TW.weak .nil) .nil))
  have tR : ∀ z : Int, TVW (.one (.seq (some false) [cJ z])) (.one (eL cI [encJ z])) := fun z => .one .weak
  have o4 : PCall Tryz.prog 13 [tI .i64 4] (eI z4) := by rw [h4]; exact i_Of 4 (by decide) (by decide)
  have o6 : PCall Tryz.prog 13 [tI .i64 6] (eI z6) := by rw [h6]; exact i_Of 6 (by decide) (by decide)
  have o2 : PCall Tryz.prog 13 [tI .i64 2] (eI z2) := by rw [h2]; exact i_Of 2 (by decide) (by decide)
  have o1 : PCall Tryz.prog 13 [tI .i64 1] (eI z1) := by rw [h1]; exact i_Of 1 (by decide) (by decide)
  rw [← h2] at s2 hF hE1
  rw [← h1] at s1
  have hF := hF.tw (.cons tA (.cons TVW.refl1 .nil))
  have s2 := s2.tw (.cons tA (.cons (tR z2) (.cons TVW.refl1 .nil)))
  have s1 := s1.tw (.cons tA (.cons (tR z1) (.cons TVW.refl1 .nil)))
  have hE1 := hE1.tw (tvs' := [.one (eW [[encJ z2, (false, [])]]), .one (.seq (some false) [[.seq (some false) [cJ z2, [.lit (.bool false), .seq (some true) []]]]])]) (.cons TVW.refl1 (.cons (.one (TW.list (.inr rfl) (.cons (.cons (TW.list (.inr rfl) (.cons TWs.refl (.cons (.cons .refl (.cons .weak .nil)) .nil))) .nil) .nil))) .nil))
  have hHm : ([[encJ z2, (false, [])]] : List (List RI)).length = 1 := rfl
  generalize ([[encJ z2, (false, [])]] : List (List RI)) = Hm at *
  refine pcall_of_wpA mixed Tryz.call4 Tryz.func4 rfl Tryz.ntmps4 Tryz.results4 (by simp) (by decide) ?_
  simp only [go_sem]
  ((repeat (refine regA_by 0 rfl ?_; simp only [go_sem])); refine call_pure (o4) rfl ?_; simp only [go_sem]; (repeat (refine regA_by 0 rfl ?_; simp only [go_sem])); refine call_pure (o6) rfl ?_; simp only [go_sem]; (repeat (refine regA_by 0 rfl ?_; simp only [go_sem])); refine call_pure (hF) rfl ?_; simp only [go_sem]; (repeat (refine regA_by 0 rfl ?_; simp only [go_sem])); refine call_pure (o2) rfl ?_; simp only [go_sem]; (repeat (refine regA_by 0 rfl ?_; simp only [go_sem])); refine call_pure (s2) rfl ?_; simp only [go_sem]; (repeat (refine regA_by 0 rfl ?_; simp only [go_sem])); refine call_pure (o1) rfl ?_; simp only [go_sem]; (repeat (refine regA_by 0 rfl ?_; simp only [go_sem])); refine call_pure (s1) rfl ?_; simp only [go_sem]; (repeat (refine regA_by 0 rfl ?_; simp only [go_sem])))
  simp only [go_sem, hHm]
  ((repeat (refine regA_by 0 rfl ?_; simp only [go_sem, hHm])); refine call_pure (o2) rfl ?_; simp only [go_sem, hHm]; (repeat (refine regA_by 0 rfl ?_; simp only [go_sem, hHm])); refine call_pure (hE1) rfl ?_; simp only [go_sem, hHm]; (repeat (refine regA_by 0 rfl ?_; simp only [go_sem, hHm])); refine call_pure (hM) rfl ?_; simp only [go_sem, hHm]; (repeat (refine regA_by 0 rfl ?_; simp only [go_sem, hHm])); refine call_pure (hUt) rfl ?_; simp only [go_sem, hHm]; (repeat (refine regA_by 0 rfl ?_; simp only [go_sem, hHm])); refine call_pure (hE2) rfl ?_; simp only [go_sem, hHm]; (repeat (refine regA_by 0 rfl ?_; simp only [go_sem, hHm])))
  simp only [go_sem, hXl, hfl, hHm]
end Go.Proofs.YtjmbhknhiakkpaaGreat
namespace Go.Proofs.YtjmbhknhiakkpaaGreat
open Go Go.Abs
theorem smI_cut {f : Nat → Int} {m : Nat} : ∀ {M : Nat}, m ≤ M → (∀ j, m ≤ j → j < M → f j = 0) → smI f M = smI f m
  | 0, h, _ => by obtain rfl : m = 0 := by omega
                  rfl
  | M + 1, h, h0 => by
    by_cases c : m = M + 1
    · rw [c]
    · rw [smI, smI_cut (by omega) fun j h1 h2 => h0 j h1 (by omega), h0 M (by omega) (by omega), Int.add_zero]
theorem prW_in {a b : List (List RI)} {i j m : Nat} (hi : i < a.length) (hm : b.length ≤ m) : prW a b i j = smI (fun k => atW a i k * atW b k j) m := by
  unfold prW
  rw [List.getElem?_eq_getElem hi]
  show smI _ _ = _
  refine ((smI_cut (by omega) fun k h1 h2 => ?_).trans (smI_congr fun k _ => by rw [atW_lt hi])).symm
  rw [atW_lt hi]
  by_cases c : k < b.length
  · rw [atR_ge (by omega), Int.zero_mul]
  · rw [atW_ge (a := b) (by omega), Int.mul_zero]
theorem lN_atW {a : List (List RI)} {L : Nat} (h : ∀ r ∈ a, LR L r) (i j : Nat) : lN (atW a i j) ≤ L := by
  by_cases c : i < a.length
  · rw [atW_lt c]; exact (h _ (List.getElem_mem c)).at j
  · rw [atW_ge (by omega)]; unfold lN; simp [dig_zero]
theorem LR_sum {a b : List (List RI)} {L m R n M : Nat} (ha : ∀ r ∈ a, LR L r) (hb : ∀ r ∈ b, LR L r) (hn : n < 1000000) (hM : 2 * L + m ≤ M) : ∀ r ∈ rawM R n fun i k => smI (fun j => atW a i j * atW b j k) m, LR M r :=
  LR_raw hn fun i k _ _ => by
    have := lN_smI (f := fun j => atW a i j * atW b j k) (C := 2 * L) (m := m) fun c _ => by
      have := lN_mul (atW a i c) (atW b c k)
      have := lN_atW ha i c
      have := lN_atW hb c k
      show lN (atW a i c * atW b c k) ≤ _
      omega
    omega
theorem LR.mono {L M : Nat} {r : List RI} (h : LR L r) (hM : L ≤ M) : LR M r := ⟨h.1, fun p hp => Nat.le_trans (h.2 p hp) hM⟩
theorem _root_.Go.Abs.Shp.congr {g g' : Nat → Nat → Int} {R n : Nat} {k : Nat → Nat} (h : Shp g R n k) (e : ∀ i j, i < R → j < n → g' i j = g i j) : Shp g' R n k where
  k0 := h.k0
  right := fun i j h1 h2 h3 => by rw [e i j h1 h3]; exact h.right i j h1 h2 h3
  out := h.out
  nonneg := fun i h1 h2 => by rw [e i _ h1 h2]; exact h.nonneg i h1 h2
  zero := fun i h1 h2 h3 => h.zero i h1 h2 (by rw [← e i _ h1 h2]; exact h3)
  piv := fun i h1 h2 h3 => by
    rw [e i _ h1 h2] at h3 ⊢
    obtain ⟨x, y⟩ := h.piv i h1 h2 h3
    exact ⟨x, fun j hj => by rw [e i j h1 (by omega)]; exact y j hj⟩
end Go.Proofs.YtjmbhknhiakkpaaGreat
namespace Go.Proofs.YtjmbhknhiakkpaaGreat
open Go Go.Abs
/-- A matrix of own rows becomes a tree. -/
theorem gstep_mat {σ : St} {R n : Nat} {g : Nat → Nat → Int} (h1 : σ.H 900001 = some (rowsC 900100 2 n R)) (hr : ∀ i, i < R → σ.H (900100 + i) = some (cellsL cJ (fnG n (g i)))) : Go.Abs.GStep σ ((σ.frzF 900100 R 2 n (fun i => rowT n (g i))).frz 900001 1 R (eW (rawM R n g))) := by
  refine Go.Abs.GStep.trans (gstep_frzF (b := 900100) (sz := 2) (len := n) (x := fun i => rowT n (g i)) R fun i hi => ⟨_, hr i hi, rowT_tree⟩) (gstep_frz (cs := cellsL (fun i => [rowT n (g i)]) (List.range R)) ?_ headT)
  rw [frzF_H, if_neg (by omega), h1]
  have := fF_rows (b := 900100) (n := R) (sz := 2) (len := n) (x := fun i => rowT n (g i)) (k := 0) (m := R) (by omega)
  simp only [Nat.zero_add, Nat.add_zero] at this
  show some (List.map _ _) = _
  rw [this]
end Go.Proofs.YtjmbhknhiakkpaaGreat
namespace Go.Proofs.YtjmbhknhiakkpaaGreat
open Go Go.Abs
theorem first_bad (p : Nat → Prop) : ∀ R : Nat, ∃ T, T ≤ R ∧ (∀ r, r < T → ¬ p r) ∧ (T < R → p T)
  | 0 => ⟨0, Nat.le_refl _, fun r h => by omega, fun h => by omega⟩
  | R + 1 => by
    obtain ⟨T, h1, h2, h3⟩ := first_bad p R
    by_cases c : T < R
    · exact ⟨T, by omega, h2, fun _ => h3 c⟩
    · obtain rfl : T = R := by omega
      by_cases d : p T
      · exact ⟨T, by omega, h2, fun _ => d⟩
      · exact ⟨T + 1, by omega, fun r hr => by
          by_cases e : r = T
          · rw [e]; exact d
          · exact h2 r (by omega), fun h => by omega⟩
/-- What Solve answers, with all that is known of it. -/
theorem solve_any (a : List (List RI)) (b : List RI) (n : Nat) (hn : n ≤ 5) (hR : a.length ≤ 6) (ha : ∀ r ∈ a, LR 3 r) (hb : LR 3 b) :
    ∃ S pv kk T, Piv S n a.length kk pv ∧ InvH (atW a) n a.length S ∧ T ≤ a.length ∧ (∀ r, r < T → ¬ badS S pv kk (atR b) r) ∧ (T < a.length → badS S pv kk (atR b) T) ∧
      LBsol S pv kk (atR b) n a.length T 10700000 140000000 ∧
      PCall Tryz.prog 6 [.one (eW a), .one (eL cI b), tI .i64 n] (solT S pv kk (atR b) n a.length T) := by
  obtain ⟨S, hS⟩ : ∃ S, S = (madeS (atW a) n a.length a.length).1 := ⟨_, rfl⟩
  obtain ⟨pv, hpv⟩ : ∃ pv, pv = pvS (atW a) n a.length := ⟨_, rfl⟩
  obtain ⟨kk, hkk⟩ : ∃ kk : Nat → Nat, kk = fun r => (madeS (atW a) n a.length r).2 := ⟨_, rfl⟩
  have hp := made_piv (a := atW a) (n := n) (R := a.length) (by omega) fun r c _ _ => atW_nat ha r c
  have hi := madeS_inv (a := atW a) (n := n) (R := a.length) a.length
  rw [← hS] at hp hi
  rw [← hpv, ← hkk] at hp
  obtain ⟨T, h1, h2, h3⟩ := first_bad (badS S pv kk (atR b)) a.length
  have hf := few_sol ha hb hn hR T hS hpv hkk
  exact ⟨S, pv, kk, T, hp, hi, h1, h2, h3, hf, h_Solve a b n (K := 10700000) (L := 3) (B := 140000000) (by decide) (by decide) (by decide) (by omega) (by omega) ha hb (few_made5 ha hn) hS hpv hkk T h1 h2 h3 hf⟩
/-- Where integers solve all equations, Solve finds some. -/
theorem solve_yes {a : List (List RI)} {b : List RI} {n : Nat} {S : HX} {pv : Nat → Int} {kk : Nat → Nat} {T : Nat} (hp : Piv S n a.length kk pv) (hi : InvH (atW a) n a.length S) (hT : T ≤ a.length) (hbad : T < a.length → badS S pv kk (atR b) T)
    {x : Nat → Int} (hx : ∀ r, r < a.length → smI (fun j => atW a r j * x j) n = atR b r) : T = a.length := by
  by_cases c : T < a.length
  · exact ((none_bad (b := atR b) hp (z := fun j => smI (fun i => S.v j i * x i) n) (fun r hr => by rw [hi.vx x hr, hx r hr]) T hT).2 c (hbad c)).elim
  · omega
theorem xSol_len {S : HX} {pv : Nat → Int} {kk : Nat → Nat} {bf : Nat → Int} {n R T K B : Nat} (h : LBsol S pv kk bf n R T K B) {i : Nat} (hi : i < n) : lN (xSol S pv kk bf n R i) ≤ K + B + n := by
  have := lN_smI (f := fun j => S.u i j * ySol S pv kk bf R j) (C := K + B) (m := n) fun j hj => by
    have h1 := lN_mul (S.u i j) (ySol S pv kk bf R j)
    have h2 := h.u i j hi hj
    have h3 := h.y R (Nat.le_refl _) j
    show lN (S.u i j * ySol S pv kk bf R j) ≤ _
    omega
  exact this
/-- What is told solves all equations. -/
theorem solve_sol {a : List (List RI)} {b : Nat → Int} {n : Nat} {S : HX} {pv : Nat → Int} {kk : Nat → Nat} {T : Nat} (hp : Piv S n a.length kk pv) (hi : InvH (atW a) n a.length S) (hT : T = a.length) (hgood : ∀ r, r < T → ¬ badS S pv kk b r)
    {r : Nat} (hr : r < a.length) : smI (fun j => atW a r j * xSol S pv kk b n a.length j) n = b r := by
  rw [← row_solved hp hr (m := a.length) hr (Nat.le_refl _) (hgood r (by omega))]
  exact hi.uy _ hr
end Go.Proofs.YtjmbhknhiakkpaaGreat
