/- At every input the call answers true and leaves its arguments as they were; no conditions. -/
import Derived.Test.YtgnfgaioeldagaaGreatSa
set_option linter.unusedSimpArgs false
set_option linter.unusedVariables false
namespace Go.Proofs.YtgnfgaioeldagaaGreat
open Go Go.RowKit Go.Shelf
attribute [local go_sem] Oper.semAt_some
theorem Keeps3.setCell {N c : Nat} (W : World) (o : Nat) (v : Value) : Keeps3 N c W (W.setCell ⟨c, o, none⟩ v) :=
  ⟨⟨rfl, rfl⟩, by simp [World.setCell], fun k _ hc => by simp [World.setCell, Array.getElem?_modify, Ne.symm hc]⟩
theorem uW_snoc (pre : List (Nat × Nat)) (x : Nat × Nat) : uW (pre ++ [x]) = IntKind.wrap .u64 (IntKind.wrap .u64 (uW pre * 1000000000) + IntKind.wrap .u64 (x.2 : Int)) := by simp [uW]

theorem Keeps3.mono {N N' c : Nat} {A B : World} (h : Keeps3 N c A B) (hN : N' ≤ N) : Keeps3 N' c A B := ⟨h.env, h.size, fun k hk hc => h.same k (by omega) hc⟩
theorem w64 (n : Int) : IntKind.wrap .i64 n = wrap64 n := by unfold wrap64 IntKind.wrap; simp [IntKind.signed, IntKind.bits]; omega
theorem tailVal_f (xs : List Nat) : tailVal false xs = wrap64 (uW (bupto (bfn xs) xs.length)) := by unfold tailVal; rw [w64]; rfl
theorem tailVal_t (xs : List Nat) : tailVal true xs = wrap64 (IntKind.wrap .u64 (-uW (bupto (bfn xs) xs.length))) := by unfold tailVal; rw [w64]; rfl

set_option maxRecDepth 100000 in
set_option maxHeartbeats 4000000 in
theorem small_tail_walk (F : Fence) (n : Nat) (h35 : F.fn 81) (h70 : F.fn 114) (h84 : F.fn 140) (hro : F.round = none) (hn : 3 ≤ n) (v0 v1 v2 v3 v5 v7 v8 v9 v10 v11 v12 v13 v14 v15 v16 v17 v18 v19 v20 v21 v22 v23 v24 v25 v26 v27 v28 v29 v30 v31 v32 v33 v34 v35 v36 v37 : Value) (w : World) (c4 c6 : Nat) (A : Option Addr) (len cap : Nat) (neg : Bool) (xs : List Nat)
    (h40 : w.cell? ⟨c4, 0, none⟩ = some (.slice A len cap)) (h41 : w.cell? ⟨c4, 1, none⟩ = some (.bool neg)) (h60 : w.cell? ⟨c6, 0, none⟩ = some (.int .u64 0)) (h61 : w.frozen? ⟨c6, 0, none⟩ = false) (hne : c4 ≠ c6) (hlt : c4 < w.heap.size ∧ c6 < w.heap.size)
    (hI : Limbs w.heap.size c6 w (.slice A len cap) xs) (hlen : xs.length < 1000000) (R : Ending → World → Prop) (hR : ∀ W', Keeps3 w.heap.size c6 w W' → R (.returned (.tuple #[.int .i64 (tailVal neg xs), .bool true])) W') :
    smallTail.wpIn F n Tryz.prog (bodyPostM F n Tryz.prog Tryz.f81 R)
      { tmps := #[v0, v1, v2, v3, .pointer (some ⟨c4, 0, none⟩), v5, .pointer (some ⟨c6, 0, none⟩), v7, v8, v9, v10, v11, v12, v13, v14, v15, v16, v17, v18, v19, v20, v21, v22, v23, v24, v25, v26, v27, v28, v29, v30, v31, v32, v33, v34, v35, v36, v37], defers := [] } w := by
  have h1 : 1 ≤ n := by omega
  obtain ⟨fnv, hfnv⟩ : ∃ fn, fn = Tryz.f81 := ⟨_, rfl⟩
  rw [← hfnv]
  have hr2 : fnv.results = #[.tmp 2, .tmp 3] := by rw [hfnv]; rfl
  unfold smallTail
  simp only [Tryz.f81, dropSeq_succ, dropSeq_zero]
  gi_wp2_with (gi_at_call 114; refine (back_in F (n - 1) h70 hro _ _ _ _).mono ?_; rintro e w' ⟨rfl, rfl⟩)
  obtain ⟨w1, hw1⟩ : ∃ w1, w1 = w.alloc (.cells #[.slice A len cap] 22) := ⟨_, rfl⟩
  have hs1 : w1.heap.size = w.heap.size + 1 := by rw [hw1]; simp
  have hbox : w1.cell? ⟨w.heap.size, 0, none⟩ = some (.slice A len cap) := by rw [hw1]; exact (Boxed.new w 22 (.slice A len cap)).cell
  have hB0 : Below w.heap.size w w1 := by rw [hw1]; exact (Below.refl _ w).alloc (Nat.le_refl _) _
  have hK0 : Keeps3 w.heap.size c6 w w1 := keeps3_of_below hB0
  have hI1 : Limbs (w.heap.size + 1) c6 w1 (.slice A len cap) xs := by
    rcases hI.below hK0 with h | ⟨b, off, cp, e1, e2, e3⟩
    · exact .inl h
    · exact .inr ⟨b, off, cp, e1, ⟨by omega, e2.2⟩, e3⟩
  have h60' : w1.cell? ⟨c6, 0, none⟩ = some (.int .u64 0) := (hB0.cell (p := ⟨c6, 0, none⟩) hlt.2).trans h60
  have h61' : w1.frozen? ⟨c6, 0, none⟩ = false := (hB0.frozen (p := ⟨c6, 0, none⟩) hlt.2).trans h61
  have h41' : w1.cell? ⟨c4, 1, none⟩ = some (.bool neg) := (hB0.cell (p := ⟨c4, 1, none⟩) hlt.1).trans h41
  rw [← hw1]
  refine wpIn_rangeFunc_ownG hro h1 (gf := 140) (lb := #[.pointer (some ⟨w.heap.size, 0, none⟩)]) rfl h84 (enters_of Tryz.func140 (by kernel_rfl) rfl)
    (back_stops F (n - 1) h84 hro (by omega) w.heap.size (w.heap.size + 1) c6 (.slice A len cap) xs hlen w1 ⟨by omega, by omega⟩ (by omega) hbox hI1)
    (fun h k => Keeps3.trans h k) (Keeps3.put (by omega)) (Below.refl _ _) (fun _ => rfl)
    (fun pre W => (W.cell? ⟨c6, 0, none⟩ = some (.int .u64 (uW pre)) ∧ W.frozen? ⟨c6, 0, none⟩ = false) ∧ Keeps3 (w.heap.size + 1) c6 w1 W)
    (fun _ _ _ => False)
    (OwnFrom.and (Own.from (fun s A B row hs hg hr => ⟨cell_kept hs.1 hg hr, (frozen_kept hs.1 hg hr).trans hs.2⟩) _) (Keeps3.own (by omega) (by omega)))
    (fun _ _ _ _ _ hs _ _ => hs)
    ⟨⟨h60', h61'⟩, .refl _ _ _⟩
    (fun x => { tmps := #[v0, v1, v2, v3, .pointer (some ⟨c4, 0, none⟩), v5, .pointer (some ⟨c6, 0, none⟩), v7, .int .u32 (x.2 : Int), v9, v10, v11, v12, v13, v14, v15, v16, v17, v18, v19, v20, .pointer (some ⟨c4, 0, none⟩), .pointer (some ⟨c4, 0, none⟩), .slice A len cap, .func (.func 140) #[] #[.pointer (some ⟨w.heap.size, 0, none⟩)], .int .i64 (x.1 : Int), .int .u32 (x.2 : Int), v27, v28, v29, v30, v31, v32, v33, v34, v35, v36, v37], defers := [] }) ?assign ?body ?done ?stop
  case assign =>
    intro l x W K hK
    gi_wp2
    exact hK
  case body =>
    rintro l pre x W ⟨⟨hc, hf⟩, hB⟩ _
    gi_wp2
    exact ⟨(KeepsOthers.setCell _ _ _).from _, .setCell _ _ _, ⟨by rw [uW_snoc]; exact World.cell?_setCell_same' _ _ _ (by rw [hc]; rfl), by rw [World.frozen?_setCell]; exact hf⟩, hB.trans (.setCell _ _ _)⟩
  case done =>
    rintro D ys W hD rfl ⟨⟨hc, hfz⟩, hB⟩ hK
    have h41d : W.cell? ⟨c4, 1, none⟩ = some (.bool neg) := (hB.cell (p := ⟨c4, 1, none⟩) (by show c4 < _; omega) hne).trans h41'
    have hkk : Keeps3 w.heap.size c6 w W := hK0.trans (hB.mono (by omega))
    cases neg
    · gi_wp2
      refine ⟨by simp, .inl ⟨_, _, rfl, run_takeDeferred hK, ?_⟩⟩
      have hq := hR _ (hkk.trans (Keeps3.put (w := w1) (by omega) W D _ (.deferred none) hD hK rfl rfl))
      rw [tailVal_f] at hq
      exact ⟨.tuple #[.int .i64 (wrap64 (uW (bupto (bfn xs) xs.length))), .bool true], results_tmp2 hr2 _ _ _, hq⟩
    · gi_wp2
      have hK' := (KeepsOthers.setCell W ⟨c6, 0, none⟩ (.int .u64 (IntKind.wrap .u64 (-uW (bupto (bfn xs) xs.length))))).same D _ hK rfl
      refine ⟨by simp, .inl ⟨_, _, rfl, run_takeDeferred hK', ?_⟩⟩
      have hq := hR _ ((hkk.trans (.setCell _ _ _)).trans (Keeps3.put (w := w1) (by omega) _ D _ (.deferred none) hD hK' rfl rfl))
      rw [tailVal_t] at hq
      exact ⟨.tuple #[.int .i64 (wrap64 (IntKind.wrap .u64 (-uW (bupto (bfn xs) xs.length)))), .bool true], results_tmp2 hr2 _ _ _, hq⟩
  case stop =>
    rintro D c pre W _ _ h _
    exact h.elim
end Go.Proofs.YtgnfgaioeldagaaGreat
