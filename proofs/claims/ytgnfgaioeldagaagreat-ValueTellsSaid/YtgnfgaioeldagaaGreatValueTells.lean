/- At every input the call answers true and leaves its arguments as they were; no conditions. -/
import Derived.Test.YtgnfgaioeldagaaGreatVh
import Derived.Test.YtgnfgaioeldagaaGreatVg
import Derived.Test.YtgnfgaioeldagaaGreatQv
import Derived.Test.YtgnfgaioeldagaaGreatSd
import Derived.Test.YtgnfgaioeldagaaGreatXb
set_option linter.unusedSimpArgs false
set_option linter.unusedVariables false
namespace Go.Proofs.YtgnfgaioeldagaaGreat
open Go Go.Abs
set_option maxHeartbeats 16000000
theorem fewT_FT {t : Tm} (h : fewT t = true) : FT t ∧ t.nodes ≤ 120 := by
  unfold fewT at h
  rw [Bool.and_eq_true] at h
  exact ⟨ftB_FT t h.2, of_decide_eq_true h.1⟩
theorem limM_put {m : List Fu} {name : ByteArray} {v : VR} (hm : limM m) (hl : m.length ≤ 1000) (hn : name.size < 1000) (hv : v.2.2.length ≤ 4) : limM (putM m name v) := by
  have hh : limM (heldM m) ∧ (heldM m).length ≤ 1000 := by
    unfold heldM; split
    · exact ⟨hm, hl⟩
    · exact ⟨⟨by decide, fun f hf => by cases hf⟩, by simp⟩
  unfold putM putF
  generalize heldM m = x at *
  have l1 := List.length_filter_le (fun g : Fu => sLt g.1.1 name) x
  have l2 := List.length_filter_le (fun g : Fu => sLt name g.1.1) x
  refine ⟨by rw [List.length_append, List.length_append]; simp only [List.length_singleton]; omega, fun f hf => ?_⟩
  rw [List.mem_append, List.mem_append] at hf
  rcases hf with (hf | hf) | hf
  · exact hh.1.2 f (List.mem_filter.1 hf).1
  · obtain rfl := List.mem_singleton.1 hf
    exact ⟨by show name.size < _; omega, by show 0 < 1000000000; decide, by show 0 < 1000000000; decide, (fun r hr => by cases hr), by show v.2.2.length < 1000000000; omega⟩
  · exact hh.1.2 f (List.mem_filter.1 hf).1
theorem fmB_len {m : List Fu} (h : fmB m = true) : m.length ≤ 12 := by
  unfold fmB at h
  rw [Bool.and_eq_true] at h
  exact of_decide_eq_true h.2
theorem beqB (b : Bool) : (b == b) = true := by cases b <;> rfl
set_option maxRecDepth 100000 in
theorem p_ValueTells (hS : SmallSpec) (hI : IdxSpec) (hC : CmpSpec) (t : Tm) (kt : KT t) (l : List Tm) (jl : l.length ≤ 9223372036854775807) (kl : ∀ t ∈ l, KT t) (m : List Fu) (km : KM m) (s : Sg) (a : List VR) (ja : a.length ≤ 9223372036854775807) (name : ByteArray) (v : VR) (_kv : v.2.2.length ≤ 9223372036854775807) : PCall Tryz.prog 3 [gT t, tLT l, tLF m, gSg s, tLV a, tS name, gV v] (tB true) := by
  have hk := known12 hS hI hC
  have h1 := fewTerm12 t kt
  rw [show gT t = TV.agg (cT t) from rfl, cT_eq] at h1
  have h2 := fewTerms12 l jl kl
  have h3 := fewFuns12 m km
  have d4 := gtI a.length 6 (K := 6) rfl
  have d5 := gtI s.2.1.length 6 (K := 6) rfl
  have d6 := gtI name.size 40 (K := 40) rfl
  have d7 := gtI s.1.size 40 (K := 40) rfl
  have d8 := gtI v.2.2.length 4 (K := 4) rfl
  refine pcall_of_wpA mixed Tryz.call3 Tryz.func3 rfl Tryz.ntmps3 Tryz.results3 (by simp) (by decide) ?_
  cases c1 : fewT t with
  | false =>
    rw [c1] at h1
    simp only [go_sem, cT_eq]
    ((repeat (refine regA_by 0 rfl ?_; simp only [go_sem, cT_eq])); refine call_pure (hk) rfl ?_; simp only [go_sem, cT_eq]; (repeat (refine regA_by 0 rfl ?_; simp only [go_sem, cT_eq])); refine call_pure (h1) rfl ?_; simp only [go_sem, cT_eq]; (repeat (refine regA_by 0 rfl ?_; simp only [go_sem, cT_eq])))
  | true =>
  rw [c1] at h1
  cases c2 : l.all fewT && decide (l.length ≤ 8) with
  | false =>
    rw [c2] at h2
    simp only [go_sem, cT_eq]
    ((repeat (refine regA_by 0 rfl ?_; simp only [go_sem, cT_eq])); refine call_pure (hk) rfl ?_; simp only [go_sem, cT_eq]; (repeat (refine regA_by 0 rfl ?_; simp only [go_sem, cT_eq])); refine call_pure (h1) rfl ?_; simp only [go_sem, cT_eq]; (repeat (refine regA_by 0 rfl ?_; simp only [go_sem, cT_eq])); refine call_pure (h2) rfl ?_; simp only [go_sem, cT_eq]; (repeat (refine regA_by 0 rfl ?_; simp only [go_sem, cT_eq])))
  | true =>
  rw [c2] at h2
  cases c3 : fmB m with
  | false =>
    rw [c3] at h3
    simp only [go_sem, cT_eq]
    ((repeat (refine regA_by 0 rfl ?_; simp only [go_sem, cT_eq])); refine call_pure (hk) rfl ?_; simp only [go_sem, cT_eq]; (repeat (refine regA_by 0 rfl ?_; simp only [go_sem, cT_eq])); refine call_pure (h1) rfl ?_; simp only [go_sem, cT_eq]; (repeat (refine regA_by 0 rfl ?_; simp only [go_sem, cT_eq])); refine call_pure (h2) rfl ?_; simp only [go_sem, cT_eq]; (repeat (refine regA_by 0 rfl ?_; simp only [go_sem, cT_eq])); refine call_pure (h3) rfl ?_; simp only [go_sem, cT_eq]; (repeat (refine regA_by 0 rfl ?_; simp only [go_sem, cT_eq])))
  | true =>
  rw [c3] at h3
  cases c4 : decide (a.length ≤ 6) with
  | false =>
    rw [c4] at d4
    simp only [go_sem, cT_eq]
    ((repeat (refine regA_by 0 rfl ?_; simp only [go_sem, cT_eq, d4])); refine call_pure (hk) rfl ?_; simp only [go_sem, cT_eq, d4]; (repeat (refine regA_by 0 rfl ?_; simp only [go_sem, cT_eq, d4])); refine call_pure (h1) rfl ?_; simp only [go_sem, cT_eq, d4]; (repeat (refine regA_by 0 rfl ?_; simp only [go_sem, cT_eq, d4])); refine call_pure (h2) rfl ?_; simp only [go_sem, cT_eq, d4]; (repeat (refine regA_by 0 rfl ?_; simp only [go_sem, cT_eq, d4])); refine call_pure (h3) rfl ?_; simp only [go_sem, cT_eq, d4]; (repeat (refine regA_by 0 rfl ?_; simp only [go_sem, cT_eq, d4])))
  | true =>
  rw [c4] at d4
  cases c5 : decide (s.2.1.length ≤ 6) with
  | false =>
    rw [c5] at d5
    simp only [go_sem, cT_eq]
    ((repeat (refine regA_by 0 rfl ?_; simp only [go_sem, cT_eq, d4, d5])); refine call_pure (hk) rfl ?_; simp only [go_sem, cT_eq, d4, d5]; (repeat (refine regA_by 0 rfl ?_; simp only [go_sem, cT_eq, d4, d5])); refine call_pure (h1) rfl ?_; simp only [go_sem, cT_eq, d4, d5]; (repeat (refine regA_by 0 rfl ?_; simp only [go_sem, cT_eq, d4, d5])); refine call_pure (h2) rfl ?_; simp only [go_sem, cT_eq, d4, d5]; (repeat (refine regA_by 0 rfl ?_; simp only [go_sem, cT_eq, d4, d5])); refine call_pure (h3) rfl ?_; simp only [go_sem, cT_eq, d4, d5]; (repeat (refine regA_by 0 rfl ?_; simp only [go_sem, cT_eq, d4, d5])))
  | true =>
  rw [c5] at d5
  cases c6 : decide (name.size ≤ 40) with
  | false =>
    rw [c6] at d6
    simp only [go_sem, cT_eq]
    ((repeat (refine regA_by 0 rfl ?_; simp only [go_sem, cT_eq, d4, d5, d6])); refine call_pure (hk) rfl ?_; simp only [go_sem, cT_eq, d4, d5, d6]; (repeat (refine regA_by 0 rfl ?_; simp only [go_sem, cT_eq, d4, d5, d6])); refine call_pure (h1) rfl ?_; simp only [go_sem, cT_eq, d4, d5, d6]; (repeat (refine regA_by 0 rfl ?_; simp only [go_sem, cT_eq, d4, d5, d6])); refine call_pure (h2) rfl ?_; simp only [go_sem, cT_eq, d4, d5, d6]; (repeat (refine regA_by 0 rfl ?_; simp only [go_sem, cT_eq, d4, d5, d6])); refine call_pure (h3) rfl ?_; simp only [go_sem, cT_eq, d4, d5, d6]; (repeat (refine regA_by 0 rfl ?_; simp only [go_sem, cT_eq, d4, d5, d6])))
  | true =>
  rw [c6] at d6
  cases c7 : decide (s.1.size ≤ 40) with
  | false =>
    rw [c7] at d7
    simp only [go_sem, cT_eq]
    ((repeat (refine regA_by 0 rfl ?_; simp only [go_sem, cT_eq, d4, d5, d6, d7])); refine call_pure (hk) rfl ?_; simp only [go_sem, cT_eq, d4, d5, d6, d7]; (repeat (refine regA_by 0 rfl ?_; simp only [go_sem, cT_eq, d4, d5, d6, d7])); refine call_pure (h1) rfl ?_; simp only [go_sem, cT_eq, d4, d5, d6, d7]; (repeat (refine regA_by 0 rfl ?_; simp only [go_sem, cT_eq, d4, d5, d6, d7])); refine call_pure (h2) rfl ?_; simp only [go_sem, cT_eq, d4, d5, d6, d7]; (repeat (refine regA_by 0 rfl ?_; simp only [go_sem, cT_eq, d4, d5, d6, d7])); refine call_pure (h3) rfl ?_; simp only [go_sem, cT_eq, d4, d5, d6, d7]; (repeat (refine regA_by 0 rfl ?_; simp only [go_sem, cT_eq, d4, d5, d6, d7])))
  | true =>
  rw [c7] at d7
  cases c8 : decide (v.2.2.length ≤ 4) with
  | false =>
    rw [c8] at d8
    simp only [go_sem, cT_eq]
    ((repeat (refine regA_by 0 rfl ?_; simp only [go_sem, cT_eq, d4, d5, d6, d7, d8])); refine call_pure (hk) rfl ?_; simp only [go_sem, cT_eq, d4, d5, d6, d7, d8]; (repeat (refine regA_by 0 rfl ?_; simp only [go_sem, cT_eq, d4, d5, d6, d7, d8])); refine call_pure (h1) rfl ?_; simp only [go_sem, cT_eq, d4, d5, d6, d7, d8]; (repeat (refine regA_by 0 rfl ?_; simp only [go_sem, cT_eq, d4, d5, d6, d7, d8])); refine call_pure (h2) rfl ?_; simp only [go_sem, cT_eq, d4, d5, d6, d7, d8]; (repeat (refine regA_by 0 rfl ?_; simp only [go_sem, cT_eq, d4, d5, d6, d7, d8])); refine call_pure (h3) rfl ?_; simp only [go_sem, cT_eq, d4, d5, d6, d7, d8]; (repeat (refine regA_by 0 rfl ?_; simp only [go_sem, cT_eq, d4, d5, d6, d7, d8])))
  | true =>
  rw [c8] at d8
  simp only [go_sem, cT_eq]
  ((repeat (refine regA_by 0 rfl ?_; simp only [go_sem, cT_eq, d4, d5, d6, d7, d8])); refine call_pure (hk) rfl ?_; simp only [go_sem, cT_eq, d4, d5, d6, d7, d8]; (repeat (refine regA_by 0 rfl ?_; simp only [go_sem, cT_eq, d4, d5, d6, d7, d8])); refine call_pure (h1) rfl ?_; simp only [go_sem, cT_eq, d4, d5, d6, d7, d8]; (repeat (refine regA_by 0 rfl ?_; simp only [go_sem, cT_eq, d4, d5, d6, d7, d8])); refine call_pure (h2) rfl ?_; simp only [go_sem, cT_eq, d4, d5, d6, d7, d8]; (repeat (refine regA_by 0 rfl ?_; simp only [go_sem, cT_eq, d4, d5, d6, d7, d8])); refine call_pure (h3) rfl ?_; simp only [go_sem, cT_eq, d4, d5, d6, d7, d8]; (repeat (refine regA_by 0 rfl ?_; simp only [go_sem, cT_eq, d4, d5, d6, d7, d8])))
  obtain ⟨hF, hn⟩ := fewT_FT c1
  obtain ⟨hm, h4⟩ := fmB_lim c3
  have hml := fmB_len c3
  rw [Bool.and_eq_true] at c2
  have hlF : ∀ t ∈ l, FT t := fun t ht => (fewT_FT (List.all_eq_true.1 c2.1 t ht)).1
  have hln : ∀ t ∈ l, t.nodes < 100000 := fun t ht => by have := (fewT_FT (List.all_eq_true.1 c2.1 t ht)).2; omega
  have hll := of_decide_eq_true c2.2
  have c4 := of_decide_eq_true c4
  have c5 := of_decide_eq_true c5
  have c6 := of_decide_eq_true c6
  have c7 := of_decide_eq_true c7
  have c8 := of_decide_eq_true c8
  have e1 := v_Eval hS hI t m hF kt (by omega) hm h4
  have e2 := rv_Eval t m hF kt (by omega) hm h4
  rw [show gT t = TV.agg (cT t) from rfl, cT_eq] at e1 e2
  have e3 : limV (evalM t m) := evalM_lim h4 hF (by omega)
  have e3 := rv_Same (evalM t m) (evalM t m) (by unfold limV at e3; omega) (by unfold limV at e3; omega)
  rw [decide_eq_true rfl] at e3
  have i1 := v_Is hS hI m hm
  have i2 := rv_Is m hm
  have t1 := v_True hS hI l m (by omega) hlF kl hln hm h4
  have t2 := rv_True l m (by omega) hlF kl hln hm h4
  have p1 := v_Put hS hI hC m name v hm
  have p2 := rv_Put m name v hm
  have p3 : limM (putM m name v) := limM_put hm (by omega) (by omega) c8
  have p3 := rv_SameFuns (putM m name v) (putM m name v) p3 p3
  rw [decide_eq_true rfl] at p3
  have o1 := v_Of hS hI m s a hm (by omega)
  have a4 := @appF_len s a (heldM m) (val4_held h4)
  have o3 := rv_Same (appF s a (heldM m)) (appF s a (heldM m)) (by omega) (by omega)
  rw [decide_eq_true rfl] at o3
  have o2 := fun h => rv_Of m s a hm (by omega) h
  generalize evalM t m = E at *
  generalize appF s a (heldM m) = O at *
  generalize putM m name v = Q at *
  generalize isM m = q1 at *
  generalize trueM l m = q2 at *
  refine loop_inv (fun i : Nat => stL 136 [(1, .one (.t (eL cT l))), (2, .one (.t (eL cFu m))), (4, .one (.t (eL cV a))), (5, .one (.t (.lit (.string name)))), (7, .one (.ptr 7 0)), (10, .one (.ptr 10 0)), (13, .one (.ptr 13 0)), (15, litI .i64 i)]
    [(13, [.t (.lit (.int .i64 v.1)), .t (.lit (.bool v.2.1)), .t (eN v.2.2)]), (10, [.t (.lit (.string s.1)), .t (eL cInt s.2.1), .t (.lit (.int .i64 s.2.2))]), (7, [.t (.lit (.int .i64 t.op)), .t (.lit (.bool t.num.1)), .t (eN t.num.2), .t (.lit (.string t.name)), .t (.lit (.int .i64 t.sort)), .t (eL cT t.kids)])]) (fun i => i ≤ a.length ∧ (a.take i).all v4 = true) (fun i => a.length - i) 0 ?_ ⟨Nat.zero_le _, by simp⟩ ?_
  · (refine gstep_list rfl ?_ ?_ ?_ ?_ <;> (try simp only [go_sem, tail_one]) <;> (try simp))
  · rintro i ⟨hi, hinv⟩
    simp only [go_sem]
    (repeat (refine And.intro (by omega) ?_))
    refine CondR_if (fun hlt => ?_) (fun hge => ?_)
    · have hlt' : i < a.length := by omega
      have hel : elemD cV a i = cV a[i] := elemD_lt hlt'
      have hs := all_take_succ (p := v4) hlt'
      have ilt : ((i : Int) < (a.length : Int)) = True := eq_true (by omega)
      generalize a[i] = x at *
      have d3 := gtI x.2.2.length 4 (K := 4) rfl
      have ev4 : v4 x = decide (x.2.2.length ≤ 4) := rfl
      cases c : decide (x.2.2.length ≤ 4) with
      | false =>
        rw [c] at d3
        simp only [go_sem, hel, ilt, d3]
        (repeat (refine And.intro (by omega) ?_))
        omega
      | true =>
        rw [c] at d3
        simp only [go_sem, hel, ilt, d3]
        (repeat (refine And.intro (by omega) ?_))
        refine ⟨i + 1, ⟨hlt', by rw [hs, hinv, ev4, c]; rfl⟩, (by show a.length - (i + 1) < a.length - i; omega), ?_⟩
        (refine gstep_list rfl ?_ ?_ ?_ ?_ <;> (try simp only [go_sem, tail_one, wrap_i64 (n := (i : Int) + 1) (by omega) (by omega)]) <;> (try simp))
    · obtain rfl : i = a.length := by omega
      rw [List.take_length] at hinv
      have hav : ∀ x ∈ a, x.2.2.length ≤ 4 := fun x hx => of_decide_eq_true (List.all_eq_true.1 hinv x hx)
      have o2 := o2 (fun x hx => by have := hav x hx; show x.2.2.length < 1000000000; omega)
      simp only [go_sem]
      cases a with
      | nil =>
        have s1 := v_Same v v (by omega)
        have s2 := rv_Same v v (by omega) (by omega)
        rw [decide_eq_true rfl] at s1 s2
        have z0 : ((0 : Int) < (([] : List VR).length : Int)) = False := eq_false (by simp)
        simp only [go_sem, z0]
        ((repeat (refine regA_by 0 rfl ?_; simp only [go_sem, z0, cT_eq, beqB])); refine call_pure (i1) rfl ?_; simp only [go_sem, z0, cT_eq, beqB]; (repeat (refine regA_by 0 rfl ?_; simp only [go_sem, z0, cT_eq, beqB])); refine call_pure (i2) rfl ?_; simp only [go_sem, z0, cT_eq, beqB]; (repeat (refine regA_by 0 rfl ?_; simp only [go_sem, z0, cT_eq, beqB])); refine call_pure (e1) rfl ?_; simp only [go_sem, z0, cT_eq, beqB]; (repeat (refine regA_by 0 rfl ?_; simp only [go_sem, z0, cT_eq, beqB])); refine call_pure (e2) rfl ?_; simp only [go_sem, z0, cT_eq, beqB]; (repeat (refine regA_by 0 rfl ?_; simp only [go_sem, z0, cT_eq, beqB])); refine call_pure (e3) rfl ?_; simp only [go_sem, z0, cT_eq, beqB]; (repeat (refine regA_by 0 rfl ?_; simp only [go_sem, z0, cT_eq, beqB])); refine call_pure (o1) rfl ?_; simp only [go_sem, z0, cT_eq, beqB]; (repeat (refine regA_by 0 rfl ?_; simp only [go_sem, z0, cT_eq, beqB])); refine call_pure (o2) rfl ?_; simp only [go_sem, z0, cT_eq, beqB]; (repeat (refine regA_by 0 rfl ?_; simp only [go_sem, z0, cT_eq, beqB])); refine call_pure (o3) rfl ?_; simp only [go_sem, z0, cT_eq, beqB]; (repeat (refine regA_by 0 rfl ?_; simp only [go_sem, z0, cT_eq, beqB])); refine call_pure (t1) rfl ?_; simp only [go_sem, z0, cT_eq, beqB]; (repeat (refine regA_by 0 rfl ?_; simp only [go_sem, z0, cT_eq, beqB])); refine call_pure (t2) rfl ?_; simp only [go_sem, z0, cT_eq, beqB]; (repeat (refine regA_by 0 rfl ?_; simp only [go_sem, z0, cT_eq, beqB])); refine call_pure (s1) rfl ?_; simp only [go_sem, z0, cT_eq, beqB]; (repeat (refine regA_by 0 rfl ?_; simp only [go_sem, z0, cT_eq, beqB])); refine call_pure (s2) rfl ?_; simp only [go_sem, z0, cT_eq, beqB]; (repeat (refine regA_by 0 rfl ?_; simp only [go_sem, z0, cT_eq, beqB])); refine call_pure (p1) rfl ?_; simp only [go_sem, z0, cT_eq, beqB]; (repeat (refine regA_by 0 rfl ?_; simp only [go_sem, z0, cT_eq, beqB])); refine call_pure (p2) rfl ?_; simp only [go_sem, z0, cT_eq, beqB]; (repeat (refine regA_by 0 rfl ?_; simp only [go_sem, z0, cT_eq, beqB])); refine call_pure (p3) rfl ?_; simp only [go_sem, z0, cT_eq, beqB]; (repeat (refine regA_by 0 rfl ?_; simp only [go_sem, z0, cT_eq, beqB])))
      | cons x a' =>
        have hx := hav x (List.mem_cons_self ..)
        have s1 := v_Same v x (by omega)
        have s2 := rv_Same v x (by omega) (by omega)
        generalize decide (v = x) = q3 at *
        have z0 : ((0 : Int) < ((x :: a').length : Int)) = True := eq_true (by simp)
        have hel : elemD cV (x :: a') 0 = cV x := rfl
        simp only [go_sem, z0, hel]
        (repeat (refine And.intro (by omega) ?_))
        ((repeat (refine regA_by 0 rfl ?_; simp only [go_sem, z0, hel, cT_eq, beqB])); refine call_pure (i1) rfl ?_; simp only [go_sem, z0, hel, cT_eq, beqB]; (repeat (refine regA_by 0 rfl ?_; simp only [go_sem, z0, hel, cT_eq, beqB])); refine call_pure (i2) rfl ?_; simp only [go_sem, z0, hel, cT_eq, beqB]; (repeat (refine regA_by 0 rfl ?_; simp only [go_sem, z0, hel, cT_eq, beqB])); refine call_pure (e1) rfl ?_; simp only [go_sem, z0, hel, cT_eq, beqB]; (repeat (refine regA_by 0 rfl ?_; simp only [go_sem, z0, hel, cT_eq, beqB])); refine call_pure (e2) rfl ?_; simp only [go_sem, z0, hel, cT_eq, beqB]; (repeat (refine regA_by 0 rfl ?_; simp only [go_sem, z0, hel, cT_eq, beqB])); refine call_pure (e3) rfl ?_; simp only [go_sem, z0, hel, cT_eq, beqB]; (repeat (refine regA_by 0 rfl ?_; simp only [go_sem, z0, hel, cT_eq, beqB])); refine call_pure (o1) rfl ?_; simp only [go_sem, z0, hel, cT_eq, beqB]; (repeat (refine regA_by 0 rfl ?_; simp only [go_sem, z0, hel, cT_eq, beqB])); refine call_pure (o2) rfl ?_; simp only [go_sem, z0, hel, cT_eq, beqB]; (repeat (refine regA_by 0 rfl ?_; simp only [go_sem, z0, hel, cT_eq, beqB])); refine call_pure (o3) rfl ?_; simp only [go_sem, z0, hel, cT_eq, beqB]; (repeat (refine regA_by 0 rfl ?_; simp only [go_sem, z0, hel, cT_eq, beqB])); refine call_pure (t1) rfl ?_; simp only [go_sem, z0, hel, cT_eq, beqB]; (repeat (refine regA_by 0 rfl ?_; simp only [go_sem, z0, hel, cT_eq, beqB])); refine call_pure (t2) rfl ?_; simp only [go_sem, z0, hel, cT_eq, beqB]; (repeat (refine regA_by 0 rfl ?_; simp only [go_sem, z0, hel, cT_eq, beqB])); refine call_pure (s1) rfl ?_; simp only [go_sem, z0, hel, cT_eq, beqB]; (repeat (refine regA_by 0 rfl ?_; simp only [go_sem, z0, hel, cT_eq, beqB])); refine call_pure (s2) rfl ?_; simp only [go_sem, z0, hel, cT_eq, beqB]; (repeat (refine regA_by 0 rfl ?_; simp only [go_sem, z0, hel, cT_eq, beqB])); refine call_pure (p1) rfl ?_; simp only [go_sem, z0, hel, cT_eq, beqB]; (repeat (refine regA_by 0 rfl ?_; simp only [go_sem, z0, hel, cT_eq, beqB])); refine call_pure (p2) rfl ?_; simp only [go_sem, z0, hel, cT_eq, beqB]; (repeat (refine regA_by 0 rfl ?_; simp only [go_sem, z0, hel, cT_eq, beqB])); refine call_pure (p3) rfl ?_; simp only [go_sem, z0, hel, cT_eq, beqB]; (repeat (refine regA_by 0 rfl ?_; simp only [go_sem, z0, hel, cT_eq, beqB])))
end Go.Proofs.YtgnfgaioeldagaaGreat
namespace Go.Proofs.YtgnfgaioeldagaaGreat
open Go Go.Abs Go.ChangeShapes Go.WideShapes Go.ChangeAt Go.RowKit
set_option maxRecDepth 100000
theorem valueTells_lifted (os : Os) (started : os.Started) (H : Type) (enc : TypeId × Value → H) :
    ReturnsInHanded {} Tryz.checked os 3 .any (Rows.valueTellsSpec.pre6 enc Tryz.prog Tryz.f3 Rows.valueTellsRow.domain false) (Rows.valueTellsSpec.post enc Tryz.prog Tryz.f3 false true false false) := by
  refine returnsInHanded_of_change (C := Tryz.checked) Tryz.ownK started (by kernel_rfl) Tryz.func3
    (ChangeSpec.witness6 (enc := enc) (C := Tryz.checked) false ⟨#[], #[.agg #[.int .i64 0, .bool false, .slice none 0 0, .string { data := #[] }, .int .i64 0, .slice none 0 0], .slice none 0 0, .slice none 0 0, .agg #[.string { data := #[] }, .slice none 0 0, .int .i64 0], .slice none 0 0, .string { data := #[] }, .agg #[.int .i64 0, .bool false, .slice none 0 0]], []⟩ 8 (by kernel_rfl) (by kernel_rfl) (by kernel_rfl) (by kernel_rfl)) ?_
  intro W base args ds gs before hval hW _ _
  refine row_of_pcall (S := plainSV) (tb := 4) plainV_ok Tryz.laidOut (by intro t ht; revert t; decide +kernel) rfl Tryz.underlying4 rfl (fun ds h => ?_) (fun tvs h => ?_) hval hW
  · match ds, h with
    | [d0, d1, d2, d3, d4, d5, d6], _ => rfl
  · obtain ⟨x0, _, rfl, h0, h⟩ := wtvs_cons h
    obtain ⟨x1, _, rfl, h1, h⟩ := wtvs_cons h
    obtain ⟨x2, _, rfl, h2, h⟩ := wtvs_cons h
    obtain ⟨x3, _, rfl, h3, h⟩ := wtvs_cons h
    obtain ⟨x4, _, rfl, h4, h⟩ := wtvs_cons h
    obtain ⟨x5, _, rfl, h5, h⟩ := wtvs_cons h
    obtain ⟨x6, _, rfl, h6, h⟩ := wtvs_cons h
    obtain rfl := wtvs_nil h
    obtain ⟨t0, rfl, k0⟩ := wtv_Term h0
    obtain ⟨l1, rfl, j1, k1⟩ := wtv_Terms h1
    obtain ⟨m2, rfl, k2⟩ := wtv_Funs h2
    obtain ⟨s3, rfl, _⟩ := wtv_Sig h3
    obtain ⟨l4, rfl, j4⟩ := wtv_Values h4
    obtain ⟨s5, rfl, _⟩ := wtv_Str h5
    obtain ⟨v6, rfl, k6⟩ := wtv_Value h6
    exact p_ValueTells smallSpec idxSpec cmpSpec t0 k0 l1 j1 k1 m2 k2 s3 l4 j4 s5 v6 k6

theorem valueTells_holds : Rows.ValueTellsSaid :=
  OpenClaim.holds_of_wide 3 Tryz.f3 rfl rfl rfl rfl rfl rfl rfl ⟨rfl, rfl, rfl, rfl, rfl⟩ rfl rfl rfl rfl rfl (by kernel_rfl) Tryz.func3 (by kernel_rfl)
    (of_decide_eq_true (by kernel_rfl)) (by unfold Func.isWrapper; first | (rw [if_pos (by decide +kernel)]; kernel_rfl) | (rw [if_neg (by decide +kernel)]; exact ⟨rfl, rfl⟩))
    (fun os started H enc _ => valueTells_lifted os started H enc)
end Go.Proofs.YtgnfgaioeldagaaGreat
