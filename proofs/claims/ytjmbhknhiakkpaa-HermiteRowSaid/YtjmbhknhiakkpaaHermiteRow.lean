/- At every input the call answers true and leaves its arguments as they were; no conditions. -/
import Derived.Test.YtjmbhknhiakkpaaUd
import Derived.Test.YtjmbhknhiakkpaaMj
import Derived.Test.YtjmbhknhiakkpaaNw
import Derived.Test.YtjmbhknhiakkpaaQz
set_option linter.unusedSimpArgs false
set_option linter.unusedVariables false
namespace Go.Proofs.Ytjmbhknhiakkpaa
open Go Go.Abs
set_option maxHeartbeats 32000000
theorem zero_cJ : [C.t (T.lit (Value.bool false)), C.t (T.seq none [])] = (cJ 0).map .t := by
  show _ = [C.t (.lit (.bool (decide ((0 : Int) < 0)))), C.t (eN (dig 0))]; rw [dig_zero]; rfl
theorem acc_vec {b n : Nat} {z : Nat → Int} (h : n ≠ 0) : accC b 2 (fnG n z) = .vec b 2 0 n := by
  have hxl : (fnG n z).length = n := fnG_len
  cases e : fnG n z with
  | nil => rw [e] at hxl; exact (h hxl.symm).elim
  | cons y ys => rw [e] at hxl; rw [← hxl]; rfl
theorem fnG_isE {n : Nat} {z : Nat → Int} (h : n ≠ 0) : (fnG n z).isEmpty = false := by
  have hxl : (fnG n z).length = n := fnG_len
  cases e : fnG n z with
  | nil => rw [e] at hxl; exact (h hxl.symm).elim
  | cons y ys => rfl
theorem accH_vec {n : Nat} {z : Nat → Int} {o : Option (List C)} (h : n ≠ 0) : accH cJ (fnG n z) o = some (cellsL cJ (fnG n z)) := by
  have hxl : (fnG n z).length = n := fnG_len
  cases e : fnG n z with
  | nil => rw [e] at hxl; exact (h hxl.symm).elim
  | cons y ys => rfl
abbrev eS (l : List Int) : T := eL (fun n => [T.lit (.int .i16 n)]) l
theorem p_HermiteRow (l : List Int) (jl : l.length ≤ maxLen) (kl : ∀ n ∈ l, -32768 ≤ n ∧ n < 32768) : PCall Try.prog 7 [.one (eS l)] (tB true) := by
  have hk := known20
  have jl : l.length ≤ 9223372036854775807 := Nat.le_trans jl (by decide)
  obtain ⟨n, hn⟩ : ∃ n, n = l.length := ⟨_, rfl⟩
  obtain ⟨z, hz⟩ : ∃ z : Nat → Int, z = fun j => (l[j]?).getD 0 := ⟨_, rfl⟩
  have hzb : ∀ i, -32768 ≤ z i ∧ z i < 32768 := fun i => by
    rw [hz]
    show -32768 ≤ (l[i]?).getD 0 ∧ (l[i]?).getD 0 < 32768
    by_cases c : i < l.length
    · rw [List.getElem?_eq_getElem c]; exact kl _ (List.getElem_mem c)
    · rw [List.getElem?_eq_none (by omega)]; decide
  have hzl : ∀ i, lN (z i) ≤ 1 := fun i => lN_small (by have := hzb i; omega)
  have hgl : ∀ i, lN (gl z i) ≤ 1 := fun i => lN_small (by have := gl_le (z := z) (M := 32768) (fun i => by have := hzb i; omega) i; omega)
  refine pcall_of_wpS [false, false, false, false, false, true, false, true, true] mixed Try.call7 Try.func7 rfl Try.ntmps7 Try.results7 (by simp) (by decide) ?_
  by_cases c1 : 6 < l.length
  · have c1' : ((6 : Int) < (l.length : Int)) = True := eq_true (by omega)
    simp only [go_sem, c1']
    ((repeat (refine regA_by 0 rfl ?_; simp only [go_sem, c1'])); refine call_pure (hk) rfl ?_; simp only [go_sem, c1']; (repeat (refine regA_by 0 rfl ?_; simp only [go_sem, c1'])))
  by_cases c2 : l.length = 0
  · have c1' : ((6 : Int) < (l.length : Int)) = False := eq_false (by omega)
    have c2' : ((l.length : Int) = 0) = True := eq_true (by omega)
    simp only [go_sem, c1', c2']
    ((repeat (refine regA_by 0 rfl ?_; simp only [go_sem, c1', c2'])); refine call_pure (hk) rfl ?_; simp only [go_sem, c1', c2']; (repeat (refine regA_by 0 rfl ?_; simp only [go_sem, c1', c2'])))
  have c1' : ((6 : Int) < (n : Int)) = False := eq_false (by omega)
  have c2' : ((n : Int) = 0) = False := eq_false (by omega)
  have hfz : ∀ i, i < n → elemD (fun n => [T.lit (.int .i16 n)]) l i = [T.lit (.int .i16 (z i))] := fun i hi => by
    rw [elemD_lt (by omega), hz]
    show _ = [T.lit (.int .i16 ((l[i]?).getD 0))]
    rw [List.getElem?_eq_getElem (by omega)]; rfl
  simp only [go_sem, ← hn, c1', c2']
  ((repeat (refine regA_by 0 rfl ?_; simp only [go_sem, ← hn, c1', c2'])); refine call_pure (hk) rfl ?_; simp only [go_sem, ← hn, c1', c2']; (repeat (refine regA_by 0 rfl ?_; simp only [go_sem, ← hn, c1', c2'])))
  refine loop_inv (fun i : Nat => stL 61 [(0, .one (.t (eS l))), (3, .one (accC 1000 2 (fnG i z))), (4, .one (.ptr 4 0)), (5, litI .i64 i)]
      (accE 1000 cJ (fnG i z) ++ [(4, (cJ (gl z i)).map .t)])) (fun i => i ≤ n) (fun i => n - i) 0 ?_ (Nat.zero_le _) ?_
  · rw [fnG_zero]
    refine GStep.trans (gstep_weakH 4 (cs := [C.t (T.lit (Value.bool false)), C.t (T.seq (some true) [])]) (cs' := (cJ (gl z 0)).map .t) (by simp only [go_sem]) (by show WeakL _ ((cJ 0).map .t); rw [← zero_cJ]; exact .cons .refl (.cons .seq .nil))) ?_
    (refine gstep_list rfl ?_ ?_ ?_ ?_ <;> (try simp only [go_sem, tail_one]) <;> (try simp only [true_or, or_true, or_false, beq_self_eq_true, and_self, true_and, and_true]))
  · intro i hi
    simp only [go_sem, ← hn]
    refine CondR_if (fun hlt => ?_) (fun hge => ?_)
    · have hlt' : i < n := by omega
      have hel := hfz i hlt'
      have hb := hzb i
      have w1 : IntKind.i64.wrap (z i) = z i := wrap_i64 (by omega) (by omega)
      have o1 : PCall Try.prog 20 [tI .i64 (z i)] (eI (z i)) := i_Of (z i) (by omega) (by omega)
      have o2 := i_Gcd_e (gl z i) (z i) (by have := hgl i; omega) (by have := hzl i; omega)
      have e3 : ((Int.gcd (gl z i) (z i) : Nat) : Int) = gl z (i + 1) := rfl
      rw [e3] at o2
      have hsu := fnG_succ (n := i) (g := z)
      have hxl : (fnG i z).length = i := fnG_len
      have hat := cG_at (f := cJ) (g := z) cJ_len (show i < i + 1 by omega)
      have hcl := cG_len (f := cJ) (g := z) (n := i + 1) cJ_len
      have hI1 : ((i : Int) < (n : Int)) = True := eq_true (by omega)
      have hI2 : ((i : Int) < ((i + 1 : Nat) : Int)) = True := eq_true (by omega)
      have hv := acc_vec (b := 1000) (n := i + 1) (z := z) (by omega)
      have hie := fnG_isE (n := i + 1) (z := z) (by omega)
      simp only [go_sem, hel, hI1, ← hn, w1]
      (repeat (refine And.intro (by omega) ?_))
      ((repeat (refine regA_by 0 rfl ?_; simp only [go_sem, hel, hI1, ← hn, w1])); refine call_pure (o1) rfl ?_; simp only [go_sem, hel, hI1, ← hn, w1]; (repeat (refine regA_by 0 rfl ?_; simp only [go_sem, hel, hI1, ← hn, w1])))
      refine opA_app_acc (sz := 2) (bytes := 32) (by simp only [go_sem, AppTy] <;> decide) cJ_len (fnG i z) [z i] (b := 1000) (by simp only [go_sem] <;> rfl) (by simp only [go_sem] <;> rfl) (by simp only [go_sem] <;> rfl) rfl (by simp) (by simp only [List.length_cons, List.length_nil] at *; omega) (by decide) ?_
      rw [← hsu]
      simp only [go_sem, hv]
      refine regA_by 0 rfl ?_
      simp only [go_sem, hv, hat, hcl, hI2]
      (repeat (refine And.intro (by omega) ?_))
      ((repeat (refine regA_by 0 rfl ?_; simp only [go_sem, hv, hat, hcl, hI2])); refine call_pure (o2) rfl ?_; simp only [go_sem, hv, hat, hcl, hI2]; (repeat (refine regA_by 0 rfl ?_; simp only [go_sem, hv, hat, hcl, hI2])))
      refine ⟨i + 1, hlt', (by show n - (i + 1) < n - i; omega), ?_⟩
      (refine gstep_list rfl ?_ ?_ ?_ ?_ <;> (try simp only [go_sem, tail_one, hv, wrap_i64 (n := (i : Int) + 1) (by omega) (by omega)]) <;> (try simp only [true_or, or_true, or_false, beq_self_eq_true, and_self, true_and, and_true]))
      rw [hie]; rfl
    · obtain rfl : i = n := by omega
      simp only [go_sem]
      have hv := acc_vec (b := 1000) (n := i) (z := z) (by omega)
      have hav := fun o => accH_vec (n := i) (z := z) (o := o) (by omega)
      obtain ⟨row, hrow⟩ : ∃ row : List RI, row = fnG i fun j => encJ (z j) := ⟨_, rfl⟩
      have hrl : row.length = i := by rw [hrow, fnG_len]
      have er : eL cJ (fnG i z) = eL cI row := by rw [hrow]; exact rowT_raw
      have htr := treeOf_L (f := cJ) (xs := fnG i z) cJ_len
      rw [fnG_len, er] at htr
      refine pau (stL 61 [(3, .one (.t (eL cI row))), (4, .one (.ptr 4 0))] [(4, (cJ (gl z i)).map .t)]) (GStep.trans (gstep_frz (b := 1000) (sz := 2) (len := i) (x := eL cI row) (by simp only [go_sem, hav] <;> rfl) htr) ?_) ?_
      · (refine gstep_list rfl ?_ ?_ ?_ ?_ <;> (try simp only [go_sem, tail_one, hv]) <;> (try simp only [true_or, or_true, or_false, beq_self_eq_true, and_self, true_and, and_true]))
      have hRow : ∀ r ∈ [row], LR 2 r := fun r hr => by
        obtain rfl := List.mem_singleton.1 hr
        rw [hrow]
        exact LR_row (by omega) fun c _ => by have := hzl c; omega
      obtain ⟨S, hS⟩ : ∃ S, S = (madeS (atW [row]) i 1 1).1 := ⟨_, rfl⟩
      have hat : ∀ c, c < i → atW [row] 0 c = z c := fun c hc => by
        have e : [row] = rawM 1 i (fun _ => z) := by rw [hrow]; rfl
        rw [e, atW_raw (by omega) hc]
      have hSd := madeS_dim (a := atW [row]) (n := i) (R := 1) 1
      have hi := madeS_inv (a := atW [row]) (n := i) (R := 1) 1
      have hout := few_out hRow (n := i) (by omega)
      have hsh := made_shp (a := atW [row]) (n := i) (R := 1) (by omega) fun r c _ _ => atW_nat hRow r c
      have hl1 : [row].length = 1 := rfl
      rw [hl1, ← hS] at hout
      rw [← hS] at hSd hi hsh
      have hee : eeB i / 29 + 1 ≤ 143000000 := by
        have := eeB_mono (i := i) (j := 6) (by omega)
        rw [eeB6] at this; omega
      have o1 := h_Form [row] i (K := 143000000) (L := 2) (by decide) (by decide) (by omega) (by rw [hl1]; decide) hRow (few_made6 hRow (by omega)) hS
      rw [hSd.1, hSd.2] at o1
      have hrf := row_form (g := S.h) (a := atW [row]) (n := i) (by omega) hsh hi.cols hi.cols'
      have hg : gl (atW [row] 0) i = gl z i := gl_congr hat
      rw [hg] at hrf
      obtain ⟨w, hw⟩ : ∃ w : Nat → Int, w = fun j => if j = 0 then gl z i else 0 := ⟨_, rfl⟩
      have eH : rawM 1 i S.h = rawM 1 i (fun _ => w) := rawM_congr fun r c hr hc => by
        obtain rfl : r = 0 := by omega
        rw [hw]
        by_cases e : c = 0
        · rw [e, hrf.1]; rfl
        · rw [hrf.2 c (by omega) hc]; exact (if_neg e).symm
      rw [eH] at o1
      have hlw : ∀ r ∈ rawM 1 i (fun _ => w), LR 2 r := LR_raw (by omega) fun r c _ _ => by
        rw [hw]; show lN (if c = 0 then _ else _) ≤ 2
        have := hgl i
        have : lN 0 ≤ 1 := lN_small (by decide)
        split <;> omega
      have o2 := tB_of (h_Equal (rawM 1 i (fun _ => w)) (rawM 1 i (fun _ => w)) (L := 2) (by decide) hlw hlw (by rw [rawM_len]; decide) (by rw [rawM_len]; decide)) rfl
      have eM : rawM 1 i (fun _ => w) = [fnG i fun j => encJ (w j)] := rfl
      have ew : eL cJ (fnG i w) = eL cI (fnG i fun j => encJ (w j)) := rowT_raw
      obtain ⟨wr, hwr⟩ : ∃ wr : List RI, wr = fnG i fun j => encJ (w j) := ⟨_, rfl⟩
      rw [← hwr] at eM ew
      rw [eM] at o1 o2
      have tR : ∀ r : List RI, TVW (.one (.seq (some false) [[eL cI r]])) (.one (eW [r])) := fun r => .one .weak
      have o1 := o1.tw (.cons (tR row) (.cons TVW.refl1 .nil))
      have o2 := o2.tw (.cons TVW.refl1 (.cons (tR wr) .nil))
      simp only [go_sem, hrl]
      ((repeat (refine regA_by 0 rfl ?_; simp only [go_sem, hrl])); refine call_pure (o1) rfl ?_; simp only [go_sem, hrl]; (repeat (refine regA_by 0 rfl ?_; simp only [go_sem, hrl])))
      (repeat (refine And.intro (by omega) ?_))
      refine pau (stL 61 [(4, .one (.ptr 4 0)), (6, .one (.t (eW [wr]))), (9, .one (.vec 53 2 0 i))] [(53, cellsL cJ (fnG i fun _ => 0)), (4, (cJ (gl z i)).map .t)]) (GStep.trans (gstep_weakH 53 (cs' := cellsL cJ (fnG i fun _ => 0)) (by simp only [go_sem]) (weakL_zJ i)) ?_) ?_
      · (refine gstep_list rfl ?_ ?_ ?_ ?_ <;> (try simp only [go_sem, tail_one]) <;> (try simp only [true_or, or_true, or_false, beq_self_eq_true, and_self, true_and, and_true]))
        · rfl
        · exact cellsL_refs
      have hcl := cG_len (f := cJ) (g := fun _ => 0) (n := i) cJ_len
      have hip : ((0 : Int) < (i : Int)) = True := eq_true (by omega)
      simp only [go_sem, hcl, hip]
      (repeat (refine And.intro (by omega) ?_))
      have hsd := cJ_sd (g := fun _ => 0) (show 0 < i by omega) (q := gl z i)
      rw [Nat.zero_mul, List.take_zero, List.nil_append, Nat.zero_add, ← hw] at hsd
      rw [hsd]
      have htw := treeOf_L (f := cJ) (xs := fnG i w) cJ_len
      rw [fnG_len, ew] at htw
      refine pau (stL 61 [(6, .one (.t (eW [wr]))), (9, .one (.t (eL cI wr)))] []) (GStep.trans (gstep_frz (b := 53) (sz := 2) (len := i) (x := eL cI wr) (by simp only [go_sem] <;> rfl) htw) ?_) ?_
      · (refine gstep_list rfl ?_ ?_ ?_ ?_ <;> (try simp only [go_sem, tail_one]) <;> (try simp only [true_or, or_true, or_false, beq_self_eq_true, and_self, true_and, and_true]))
      simp only [go_sem]
      ((repeat (refine regA_by 0 rfl ?_; simp only [go_sem])); refine call_pure (o2) rfl ?_; simp only [go_sem]; (repeat (refine regA_by 0 rfl ?_; simp only [go_sem])))
end Go.Proofs.Ytjmbhknhiakkpaa
namespace Go.Proofs.Ytjmbhknhiakkpaa
open Go Go.Abs Go.ChangeShapes Go.WideShapes Go.ChangeAt Go.RowKit
set_option maxRecDepth 100000
theorem hermiteRow_lifted (os : Os) (started : os.Started) (H : Type) (enc : TypeId × Value → H) :
    ReturnsInHanded {} Try.checked os 7 .any (Rows.hermiteRowSpec.pre6 enc Try.prog Try.f7 Rows.hermiteRowRow.domain false) (Rows.hermiteRowSpec.post enc Try.prog Try.f7 false true false false) := by
  refine returnsInHanded_of_change (C := Try.checked) Try.ownK started (by kernel_rfl) Try.func7
    (ChangeSpec.witness6 (enc := enc) (C := Try.checked) false ⟨#[], #[.slice none 0 0], []⟩ 8 (by kernel_rfl) (by kernel_rfl) (by kernel_rfl) (by kernel_rfl)) ?_
  intro W base args ds gs before hval hW _ _
  refine row_of_pcall (S := plainS) (tb := 4) plain_ok Try.laidOut (by intro t ht; revert t; decide +kernel) rfl Try.underlying4 rfl (fun ds h => ?_) (fun tvs h => ?_) hval hW
  · match ds, h with
    | [d0], _ => rfl
  · obtain ⟨x0, _, rfl, h0, h⟩ := wtvs_cons h
    obtain rfl := wtvs_nil h
    obtain ⟨l0, rfl, j0, k0⟩ := wtv_i16s h0
    exact p_HermiteRow l0 j0 k0

theorem hermiteRow_holds : Rows.HermiteRowSaid :=
  OpenClaim.holds_of_wide 7 Try.f7 rfl rfl rfl rfl rfl rfl rfl ⟨rfl, rfl, rfl, rfl, rfl⟩ rfl rfl rfl rfl rfl (by kernel_rfl) Try.func7 (by kernel_rfl)
    (of_decide_eq_true (by kernel_rfl)) (by unfold Func.isWrapper; first | (rw [if_pos (by decide +kernel)]; kernel_rfl) | (rw [if_neg (by decide +kernel)]; exact ⟨rfl, rfl⟩))
    (fun os started H enc _ => hermiteRow_lifted os started H enc)
end Go.Proofs.Ytjmbhknhiakkpaa
