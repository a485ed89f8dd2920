/- At every input the call answers true and leaves its arguments as they were; no conditions. -/
import Derived.Test.YtgnfgaioeldagaaGreatVh
import Derived.Test.YtgnfgaioeldagaaGreatVg
import Derived.Test.YtgnfgaioeldagaaGreatVi
import Derived.Test.YtgnfgaioeldagaaGreatQv
import Derived.Test.YtgnfgaioeldagaaGreatSd
import Derived.Test.YtgnfgaioeldagaaGreatXb
set_option linter.unusedSimpArgs false
set_option linter.unusedVariables false
namespace Go.Proofs.YtgnfgaioeldagaaGreat
open Go Go.Abs
set_option maxHeartbeats 16000000
theorem fewT_FT {t : Tm} (h : fewT t = true) : FT t ∧ t.nodes ≤ 120 := by
  unfold fewT at h
  rw [Bool.and_eq_true] at h
  exact ⟨ftB_FT t h.2, of_decide_eq_true h.1⟩
theorem limM_put {m : List Fu} {name : ByteArray} {v : VR} (hm : limM m) (hl : m.length ≤ 1000) (hn : name.size < 1000) (hv : v.2.2.length ≤ 4) : limM (putM m name v) := by
  have hh : limM (heldM m) ∧ (heldM m).length ≤ 1000 := by
    unfold heldM; split
    · exact ⟨hm, hl⟩
    · exact ⟨⟨by decide, fun f hf => by cases hf⟩, by simp⟩
  unfold putM putF
  generalize heldM m = x at *
  have l1 := List.length_filter_le (fun g : Fu => sLt g.1.1 name) x
  have l2 := List.length_filter_le (fun g : Fu => sLt name g.1.1) x
  refine ⟨by rw [List.length_append, List.length_append]; simp only [List.length_singleton]; omega, fun f hf => ?_⟩
  rw [List.mem_append, List.mem_append] at hf
  rcases hf with (hf | hf) | hf
  · exact hh.1.2 f (List.mem_filter.1 hf).1
  · obtain rfl := List.mem_singleton.1 hf
    exact ⟨by show name.size < _; omega, by show 0 < 1000000000; decide, by show 0 < 1000000000; decide, (fun r hr => by cases hr), by show v.2.2.length < 1000000000; omega⟩
  · exact hh.1.2 f (List.mem_filter.1 hf).1
theorem fmB_len {m : List Fu} (h : fmB m = true) : m.length ≤ 12 := by
  unfold fmB at h
  rw [Bool.and_eq_true] at h
  exact of_decide_eq_true h.2
theorem beqB (b : Bool) : (b == b) = true := by cases b <;> rfl
theorem appF_app {s : Sg} {l : List VR} {b c : List Fu} (h : appF s l b = appF s l c) : ∀ a : List Fu, appF s l (a ++ b) = appF s l (a ++ c)
  | [] => h
  | f :: a => by
    show (if f.1 = s then _ else appF s l (a ++ b)) = (if f.1 = s then _ else appF s l (a ++ c))
    rw [appF_app h a]
theorem appF_one {s : Sg} {l : List VR} {f : Fu} {a : List Fu} (h : ¬ f.1 = s) : appF s l (f :: a) = appF s l a := if_neg h
theorem lN_64 {z : Int} (h1 : -9223372036854775808 ≤ z) (h2 : z < 9223372036854775808) : lN z ≤ 3 := lN_of (by rw [show BB ^ 3 = 1000000000000000000000000000 from rfl]; omega)
end Go.Proofs.YtgnfgaioeldagaaGreat
namespace Go.Proofs.YtgnfgaioeldagaaGreat
open Go Go.Abs
set_option maxHeartbeats 16000000
set_option maxRecDepth 100000 in
theorem r_Sigs (t : Tm) (hn : t.nodes < 100000) : PCall Tryz.prog 37 [gT t] (.tup [.one (eL cS (sigsT t ([], true)).1), tB (sigsT t ([], true)).2]) := by
  have h := (r_sigs t.nodes t [] true (Nat.le_refl _) hn (by simp; omega) (fun x hx => by cases hx)).tw (tvs' := [gT t, .one (.seq (some true) []), tB true]) (.cons .reflA (.cons (.one .weak) (.cons .refl1 .nil)))
  rw [show gT t = TV.agg (cT t) from rfl, cT_eq] at h
  generalize sigsT t ([], true) = r at *
  refine pcall_of_wpA mixed Tryz.call37 Tryz.func37 rfl Tryz.ntmps37 Tryz.results37 (by simp) (by decide) ?_
  simp only [go_sem, cT_eq]
  refine call_pure h rfl ?_
  simp only [go_sem]
  try exact fz_tup2 (.one .t) (.one .t)
theorem appF_put {s : Sg} {l : List VR} {f : Fu} {m : List Fu} (hm : m.Pairwise (fun a b => sLt a.1.1 b.1.1 = true)) (h : ¬ s.1 = f.1.1) : appF s l (putF m f) = appF s l m := by
  obtain ⟨i, q, a1, a2, a3, a4, a5, a6⟩ := search_split f m hm
  rw [← a6]
  conv => rhs; rw [← List.take_append_drop i m]
  rw [List.append_assoc]
  refine appF_app ?_ _
  show appF s l (f :: m.drop (i + q.toNat)) = _
  rw [appF_one (fun e => h (by rw [← e]))]
  cases q with
  | false => rfl
  | true =>
    have hlt : i < m.length := by
      rcases Nat.lt_or_ge i m.length with c | c
      · exact c
      · have := a4 (by omega); cases this
    rw [List.drop_eq_getElem_cons hlt]
    have he : m[i].1.1 = f.1.1 := of_decide_eq_true (a5 hlt).symm
    rw [appF_one (fun e => h (by rw [← e, he]))]
    rfl
theorem evalT_put {m : List Fu} {f : Fu} (hm : m.Pairwise (fun a b => sLt a.1.1 b.1.1 = true)) : ∀ t : Tm, (∀ u, Sub u t → u.op = 4 → ¬ u.name = f.1.1) → evalT (putF m f) t = evalT m t := by
  refine Tm.ind fun t ih h => ?_
  have e : t.kids.map (evalT (putF m f)) = t.kids.map (evalT m) := List.map_congr_left fun k hk => ih k hk fun u hu => h u (.kid hk hu)
  rw [evalT_eq, evalT_eq, e]
  unfold evalN
  by_cases c4 : t.op = 4
  · rw [appF_put hm (by show ¬ t.name = f.1.1; exact h t (.refl t) c4)]
  · rw [if_neg c4, if_neg c4]
theorem limA_put {m : List Fu} {name : ByteArray} {v : VR} (hm : limM m) (hl : m.length ≤ 1000) (hn : name.size < 1000) (hv : v.2.2.length ≤ 9223372036854775807) : limA (putM m name v) := by
  have hh : limM (heldM m) ∧ (heldM m).length ≤ 1000 := by
    unfold heldM; split
    · exact ⟨hm, hl⟩
    · exact ⟨⟨by decide, fun f hf => by cases hf⟩, by simp⟩
  unfold putM putF
  generalize heldM m = x at *
  have l1 := List.length_filter_le (fun g : Fu => sLt g.1.1 name) x
  have l2 := List.length_filter_le (fun g : Fu => sLt name g.1.1) x
  refine ⟨by rw [List.length_append, List.length_append]; simp only [List.length_singleton]; omega, fun f hf => ?_⟩
  rw [List.mem_append, List.mem_append] at hf
  rcases hf with (hf | hf) | hf
  · exact hh.1.A.2 f (List.mem_filter.1 hf).1
  · obtain rfl := List.mem_singleton.1 hf
    exact ⟨by show name.size < _; omega, by show 0 < 1000000000; decide, by show 0 < 1000000000; decide, (fun r hr => by cases hr), hv⟩
  · exact hh.1.A.2 f (List.mem_filter.1 hf).1
set_option maxRecDepth 100000 in
theorem p_ValueLocal (hS : SmallSpec) (hI : IdxSpec) (hC : CmpSpec) (t : Tm) (kt : KT t) (m : List Fu) (km : KM m) (name : ByteArray) (v : VR) (kv : v.2.2.length ≤ 9223372036854775807) : PCall Tryz.prog 5 [gT t, tLF m, tS name, gV v] (tB true) := by
  have hk := known12 hS hI hC
  have h1 := fewTerm12 t kt
  rw [show gT t = TV.agg (cT t) from rfl, cT_eq] at h1
  have h3 := fewFuns12 m km
  have d6 := gtI name.size 20 (K := 20) rfl
  refine pcall_of_wpA mixed Tryz.call5 Tryz.func5 rfl Tryz.ntmps5 Tryz.results5 (by simp) (by decide) ?_
  cases c1 : fewT t with
  | false =>
    rw [c1] at h1
    simp only [go_sem, cT_eq]
    ((repeat (refine regA_by 0 rfl ?_; simp only [go_sem, cT_eq])); refine call_pure (hk) rfl ?_; simp only [go_sem, cT_eq]; (repeat (refine regA_by 0 rfl ?_; simp only [go_sem, cT_eq])); refine call_pure (h1) rfl ?_; simp only [go_sem, cT_eq]; (repeat (refine regA_by 0 rfl ?_; simp only [go_sem, cT_eq])))
  | true =>
  rw [c1] at h1
  cases c3 : fmB m with
  | false =>
    rw [c3] at h3
    simp only [go_sem, cT_eq]
    ((repeat (refine regA_by 0 rfl ?_; simp only [go_sem, cT_eq])); refine call_pure (hk) rfl ?_; simp only [go_sem, cT_eq]; (repeat (refine regA_by 0 rfl ?_; simp only [go_sem, cT_eq])); refine call_pure (h1) rfl ?_; simp only [go_sem, cT_eq]; (repeat (refine regA_by 0 rfl ?_; simp only [go_sem, cT_eq])); refine call_pure (h3) rfl ?_; simp only [go_sem, cT_eq]; (repeat (refine regA_by 0 rfl ?_; simp only [go_sem, cT_eq])))
  | true =>
  rw [c3] at h3
  obtain ⟨hF, hn⟩ := fewT_FT c1
  obtain ⟨hm, h4⟩ := fmB_lim c3
  have hml := fmB_len c3
  have h5 := v_Is hS hI m hm
  have h7 := r_Is t hF kt
  rw [show gT t = TV.agg (cT t) from rfl, cT_eq] at h7
  cases c5 : isM m with
  | false =>
    rw [c5] at h5
    simp only [go_sem, cT_eq]
    ((repeat (refine regA_by 0 rfl ?_; simp only [go_sem, cT_eq])); refine call_pure (hk) rfl ?_; simp only [go_sem, cT_eq]; (repeat (refine regA_by 0 rfl ?_; simp only [go_sem, cT_eq])); refine call_pure (h1) rfl ?_; simp only [go_sem, cT_eq]; (repeat (refine regA_by 0 rfl ?_; simp only [go_sem, cT_eq])); refine call_pure (h3) rfl ?_; simp only [go_sem, cT_eq]; (repeat (refine regA_by 0 rfl ?_; simp only [go_sem, cT_eq])); refine call_pure (h5) rfl ?_; simp only [go_sem, cT_eq]; (repeat (refine regA_by 0 rfl ?_; simp only [go_sem, cT_eq])))
  | true =>
  rw [c5] at h5
  cases c7 : isT t with
  | false =>
    rw [c7] at h7
    simp only [go_sem, cT_eq]
    ((repeat (refine regA_by 0 rfl ?_; simp only [go_sem, cT_eq])); refine call_pure (hk) rfl ?_; simp only [go_sem, cT_eq]; (repeat (refine regA_by 0 rfl ?_; simp only [go_sem, cT_eq])); refine call_pure (h1) rfl ?_; simp only [go_sem, cT_eq]; (repeat (refine regA_by 0 rfl ?_; simp only [go_sem, cT_eq])); refine call_pure (h3) rfl ?_; simp only [go_sem, cT_eq]; (repeat (refine regA_by 0 rfl ?_; simp only [go_sem, cT_eq])); refine call_pure (h5) rfl ?_; simp only [go_sem, cT_eq]; (repeat (refine regA_by 0 rfl ?_; simp only [go_sem, cT_eq])); refine call_pure (h7) rfl ?_; simp only [go_sem, cT_eq]; (repeat (refine regA_by 0 rfl ?_; simp only [go_sem, cT_eq])))
  | true =>
  rw [c7] at h7
  cases c6 : decide (name.size ≤ 20) with
  | false =>
    rw [c6] at d6
    simp only [go_sem, cT_eq]
    ((repeat (refine regA_by 0 rfl ?_; simp only [go_sem, cT_eq, d6])); refine call_pure (hk) rfl ?_; simp only [go_sem, cT_eq, d6]; (repeat (refine regA_by 0 rfl ?_; simp only [go_sem, cT_eq, d6])); refine call_pure (h1) rfl ?_; simp only [go_sem, cT_eq, d6]; (repeat (refine regA_by 0 rfl ?_; simp only [go_sem, cT_eq, d6])); refine call_pure (h3) rfl ?_; simp only [go_sem, cT_eq, d6]; (repeat (refine regA_by 0 rfl ?_; simp only [go_sem, cT_eq, d6])); refine call_pure (h5) rfl ?_; simp only [go_sem, cT_eq, d6]; (repeat (refine regA_by 0 rfl ?_; simp only [go_sem, cT_eq, d6])); refine call_pure (h7) rfl ?_; simp only [go_sem, cT_eq, d6]; (repeat (refine regA_by 0 rfl ?_; simp only [go_sem, cT_eq, d6])))
  | true =>
  rw [c6] at d6
  have c6 := of_decide_eq_true c6
  have hg := r_Sigs t (by omega)
  have hhas : ∀ u, Sub u t → u.op = 4 → hasN u.name (sigsT t ([], true)) := fun u hu h => sigsT_has h hu _
  have hgl := (sigsT_len t ([], true) (fun x hx => by cases hx) (by omega)).1
  have hgl : (sigsT t ([], true)).1.length ≤ 1000000 := by simp at hgl; omega
  rw [show gT t = TV.agg (cT t) from rfl, cT_eq] at hg
  generalize sigsT t ([], true) = G at *
  have he1 := v_Eval hS hI t m hF kt (by omega) hm h4
  have hE : limV (evalM t m) := evalM_lim h4 hF (by omega)
  have hPut := v_Put hS hI hC m name v hm
  have hxA : limA (putM m name v) := limA_put hm (by omega) (by omega) kv
  have hxI := v_IsA hS hI (putM m name v) hxA
  have hput : Unit → (∀ u, Sub u t → u.op = 4 → ¬ u.name = name) → VT (putM m name v) t ∧ (isM (putM m name v) = true → evalM t (putM m name v) = evalM t m) := fun _ hno => by
    have hpw := held_rise m
    have ep : putM m name v = putF m ((name, [], v.1), [], v) := by unfold putM; rw [held_of c5]
    rw [held_of c5] at hpw
    constructor
    · intro u hu hop l
      rw [ep, appF_put hpw (by show ¬ u.name = name; exact hno u hu hop)]
      exact appF_len h4
    · intro hx
      unfold evalM
      rw [c7, if_pos rfl, if_pos rfl, held_of hx, held_of c5, ep]
      exact evalT_put hpw t hno
  have he2 := fun h => v_EvalA hS hI t (putM m name v) hF kt (by omega) hxA h
  rw [show gT t = TV.agg (cT t) from rfl, cT_eq] at he1
  rw [show gT t = TV.agg (cT t) from rfl, cT_eq] at he2
  have hsm := v_Same (evalM t m) (evalM t m) (by unfold limV at hE; omega)
  rw [decide_eq_true rfl] at hsm
  generalize putM m name v = X at *
  generalize evalM t m = E at *
  simp only [go_sem, cT_eq]
  ((repeat (refine regA_by 0 rfl ?_; simp only [go_sem, cT_eq, d6])); refine call_pure (hk) rfl ?_; simp only [go_sem, cT_eq, d6]; (repeat (refine regA_by 0 rfl ?_; simp only [go_sem, cT_eq, d6])); refine call_pure (h1) rfl ?_; simp only [go_sem, cT_eq, d6]; (repeat (refine regA_by 0 rfl ?_; simp only [go_sem, cT_eq, d6])); refine call_pure (h3) rfl ?_; simp only [go_sem, cT_eq, d6]; (repeat (refine regA_by 0 rfl ?_; simp only [go_sem, cT_eq, d6])); refine call_pure (h5) rfl ?_; simp only [go_sem, cT_eq, d6]; (repeat (refine regA_by 0 rfl ?_; simp only [go_sem, cT_eq, d6])); refine call_pure (h7) rfl ?_; simp only [go_sem, cT_eq, d6]; (repeat (refine regA_by 0 rfl ?_; simp only [go_sem, cT_eq, d6])))
  refine call_pure hg rfl ?_
  simp only [go_sem]
  refine loop_inv (fun i : Nat => stL 72 [(1, .one (.t (eL cFu m))), (2, .one (.t (.lit (.string name)))), (4, .one (.ptr 4 0)), (7, .one (.ptr 7 0)), (9, .one (.t (eL cS G.1))), (11, litI .i64 i)]
    [(7, [.t (.lit (.int .i64 v.1)), .t (.lit (.bool v.2.1)), .t (eN v.2.2)]), (4, [.t (.lit (.int .i64 t.op)), .t (.lit (.bool t.num.1)), .t (eN t.num.2), .t (.lit (.string t.name)), .t (.lit (.int .i64 t.sort)), .t (eL cT t.kids)])]) (fun i => i ≤ G.1.length ∧ ∀ j (h : j < G.1.length), j < i → ¬ G.1[j].1 = name) (fun i => G.1.length - i) 0 ?_ ⟨Nat.zero_le _, fun j h hj => by omega⟩ ?_
  · (refine gstep_list rfl ?_ ?_ ?_ ?_ <;> (try simp only [go_sem, tail_one]) <;> (try simp))
  · rintro i ⟨hi, hinv⟩
    simp only [go_sem]
    refine CondR_if (fun hlt => ?_) (fun hge => ?_)
    · have hlt' : i < G.1.length := by omega
      have hel : elemD cS G.1 i = cS G.1[i] := elemD_lt hlt'
      have hb := bytes_eq G.1[i].1 name
      have ilt : ((i : Int) < (G.1.length : Int)) = True := eq_true (by omega)
      have hnx : ¬ G.1[i].1 = name → ∀ j (h : j < G.1.length), j < i + 1 → ¬ G.1[j].1 = name := fun hne j h hj => by
        rcases Nat.lt_or_ge j i with c | c
        · exact hinv j h c
        · obtain rfl : j = i := by omega
          exact hne
      generalize G.1[i] = x at *
      by_cases e : x.1 = name
      · rw [decide_eq_true e] at hb
        simp only [go_sem, hel, ilt, hb]
        omega
      · rw [decide_eq_false e] at hb
        simp only [go_sem, hel, ilt, hb]
        (repeat (refine And.intro (by omega) ?_))
        refine ⟨i + 1, ⟨hlt', hnx e⟩, (by show G.1.length - (i + 1) < G.1.length - i; omega), ?_⟩
        (refine gstep_list rfl ?_ ?_ ?_ ?_ <;> (try simp only [go_sem, tail_one, wrap_i64 (n := (i : Int) + 1) (by omega) (by omega)]) <;> (try simp))
    · obtain rfl : i = G.1.length := by omega
      obtain ⟨hVT, hev⟩ := hput () fun u hu hop e => by
        obtain ⟨x, hx, hxn⟩ := hhas u hu hop
        obtain ⟨j, hj, rfl⟩ := List.mem_iff_getElem.1 hx
        exact hinv j hj hj (by rw [hxn, e])
      have he2 := he2 hVT
      cases cX : isM X with
      | false =>
        rw [cX] at hxI
        simp only [go_sem]
        ((repeat (refine regA_by 0 rfl ?_; simp only [go_sem, cT_eq])); refine call_pure (hPut) rfl ?_; simp only [go_sem, cT_eq]; (repeat (refine regA_by 0 rfl ?_; simp only [go_sem, cT_eq])); refine call_pure (hxI) rfl ?_; simp only [go_sem, cT_eq]; (repeat (refine regA_by 0 rfl ?_; simp only [go_sem, cT_eq])))
      | true =>
        rw [cX] at hxI
        rw [hev cX] at he2
        simp only [go_sem]
        ((repeat (refine regA_by 0 rfl ?_; simp only [go_sem, cT_eq])); refine call_pure (hPut) rfl ?_; simp only [go_sem, cT_eq]; (repeat (refine regA_by 0 rfl ?_; simp only [go_sem, cT_eq])); refine call_pure (hxI) rfl ?_; simp only [go_sem, cT_eq]; (repeat (refine regA_by 0 rfl ?_; simp only [go_sem, cT_eq])); refine call_pure (he2) rfl ?_; simp only [go_sem, cT_eq]; (repeat (refine regA_by 0 rfl ?_; simp only [go_sem, cT_eq])); refine call_pure (he1) rfl ?_; simp only [go_sem, cT_eq]; (repeat (refine regA_by 0 rfl ?_; simp only [go_sem, cT_eq])); refine call_pure (hsm) rfl ?_; simp only [go_sem, cT_eq]; (repeat (refine regA_by 0 rfl ?_; simp only [go_sem, cT_eq])))
end Go.Proofs.YtgnfgaioeldagaaGreat
namespace Go.Proofs.YtgnfgaioeldagaaGreat
open Go Go.Abs Go.ChangeShapes Go.WideShapes Go.ChangeAt Go.RowKit
set_option maxRecDepth 100000
theorem valueLocal_lifted (os : Os) (started : os.Started) (H : Type) (enc : TypeId × Value → H) :
    ReturnsInHanded {} Tryz.checked os 5 .any (Rows.valueLocalSpec.pre6 enc Tryz.prog Tryz.f5 Rows.valueLocalRow.domain false) (Rows.valueLocalSpec.post enc Tryz.prog Tryz.f5 false true false false) := by
  refine returnsInHanded_of_change (C := Tryz.checked) Tryz.ownK started (by kernel_rfl) Tryz.func5
    (ChangeSpec.witness6 (enc := enc) (C := Tryz.checked) false ⟨#[], #[.agg #[.int .i64 0, .bool false, .slice none 0 0, .string { data := #[] }, .int .i64 0, .slice none 0 0], .slice none 0 0, .string { data := #[] }, .agg #[.int .i64 0, .bool false, .slice none 0 0]], []⟩ 8 (by kernel_rfl) (by kernel_rfl) (by kernel_rfl) (by kernel_rfl)) ?_
  intro W base args ds gs before hval hW _ _
  refine row_of_pcall (S := plainSV) (tb := 4) plainV_ok Tryz.laidOut (by intro t ht; revert t; decide +kernel) rfl Tryz.underlying4 rfl (fun ds h => ?_) (fun tvs h => ?_) hval hW
  · match ds, h with
    | [d0, d1, d2, d3], _ => rfl
  · obtain ⟨x0, _, rfl, h0, h⟩ := wtvs_cons h
    obtain ⟨x1, _, rfl, h1, h⟩ := wtvs_cons h
    obtain ⟨x2, _, rfl, h2, h⟩ := wtvs_cons h
    obtain ⟨x3, _, rfl, h3, h⟩ := wtvs_cons h
    obtain rfl := wtvs_nil h
    obtain ⟨t0, rfl, k0⟩ := wtv_Term h0
    obtain ⟨m1, rfl, k1⟩ := wtv_Funs h1
    obtain ⟨s2, rfl, _⟩ := wtv_Str h2
    obtain ⟨v3, rfl, k3⟩ := wtv_Value h3
    exact p_ValueLocal smallSpec idxSpec cmpSpec t0 k0 m1 k1 s2 v3 k3

theorem valueLocal_holds : Rows.ValueLocalSaid :=
  OpenClaim.holds_of_wide 5 Tryz.f5 rfl rfl rfl rfl rfl rfl rfl ⟨rfl, rfl, rfl, rfl, rfl⟩ rfl rfl rfl rfl rfl (by kernel_rfl) Tryz.func5 (by kernel_rfl)
    (of_decide_eq_true (by kernel_rfl)) (by unfold Func.isWrapper; first | (rw [if_pos (by decide +kernel)]; kernel_rfl) | (rw [if_neg (by decide +kernel)]; exact ⟨rfl, rfl⟩))
    (fun os started H enc _ => valueLocal_lifted os started H enc)
end Go.Proofs.YtgnfgaioeldagaaGreat
