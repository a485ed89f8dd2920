/- At every input the call answers true and leaves its arguments as they were; no conditions. -/
import Derived.RangeFuncBox
import Derived.RangeFuncLeaves
import Derived.Shelf.Abstract
import Derived.WalkKit
import Derived.OwnWalkIn
import Derived.TacticsInMore
import Derived.LoopNIn
import Derived.LoopIn
import Derived.Test.YtgnfgaioeldagaaGreatProg
import Derived.Test.YtgnfgaioeldagaaGreatSx
set_option linter.unusedSimpArgs false
set_option linter.unusedVariables false
namespace Go.Proofs.YtgnfgaioeldagaaGreat
open Go Go.RowKit Go.Shelf
attribute [local go_sem] Oper.semAt_some

theorem bupto_succ {α : Type} (f : Nat → α) (k : Nat) : bupto f (k + 1) = bupto f k ++ [f k] := by simp [bupto, List.range_succ]
theorem bupto_length {α : Type} (f : Nat → α) (k : Nat) : (bupto f k).length = k := by simp [bupto]
theorem bw_wrap {n : Int} (h1 : -9223372036854775808 ≤ n) (h2 : n < 9223372036854775808) : wrap64 n = n := by
  unfold wrap64; omega

theorem Keeps3.refl (N c : Nat) (A : World) : Keeps3 N c A A := ⟨⟨rfl, rfl⟩, Nat.le_refl _, fun _ _ _ => rfl⟩
theorem Keeps3.trans {N c : Nat} {A B C : World} (h : Keeps3 N c A B) (h' : Keeps3 N c B C) : Keeps3 N c A C := ⟨⟨h'.env.1.trans h.env.1, h'.env.2.trans h.env.2⟩, Nat.le_trans h.size h'.size, fun k hk hc => (h'.same k hk hc).trans (h.same k hk hc)⟩
theorem Keeps3.cell {N c : Nat} {A B : World} (h : Keeps3 N c A B) {p : Addr} (h1 : p.block < N) (h2 : p.block ≠ c) : B.cell? p = A.cell? p := World.cell?_of_block (w := A) (h.same _ h1 h2)
theorem Keeps3.frozen {N c : Nat} {A B : World} (h : Keeps3 N c A B) {p : Addr} (h1 : p.block < N) (h2 : p.block ≠ c) : B.frozen? p = A.frozen? p := World.frozen?_of_block (w := A) (h.same _ h1 h2)
theorem Keeps3.grown {N c : Nat} {A W W' : World} {row : Option Nat} (h : Keeps3 N c A W) (hg : W.grownBy W' row) (hN : N ≤ W.heap.size) (hr : ∀ k, row = some k → N ≤ k) : Keeps3 N c A W' :=
  h.trans ⟨⟨hg.os, hg.output⟩, hg.size, fun k hk _ => hg.block k (by omega) (fun e => by have := hr k e.symm; omega)⟩
theorem Keeps3.own {β : Type} {N c B : Nat} {w₀ : World} (hn : N ≤ w₀.heap.size) (hB : N ≤ B) : OwnFrom B (fun (_ : β) W => Keeps3 N c w₀ W) :=
  fun _ _ _ _ hs hg hr => hs.grown hg (Nat.le_trans hn hs.size) (fun k e => Nat.le_trans hB (hr k e).1)
theorem Keeps3.put {N c : Nat} {w : World} (hn : N ≤ w.heap.size) (W : World) (l : Nat) (o o' : Obj) (hl : w.heap.size ≤ l) (h : W.heap[l]? = some o) (_ : o.isCells = false) (_ : o.isWalk = false) : Keeps3 N c W (W.putObj l o') :=
  (Keeps3.refl N c W).grown (grownBy_putObj' W l o') (by have := (Array.getElem?_eq_some_iff.1 h).1; omega) (fun k e => by cases e; omega)

set_option maxRecDepth 100000 in
set_option maxHeartbeats 2000000 in
theorem back1_in (F : Fence) (n : Nat) (h8 : F.fn 140) (hro : F.round = none) (hn : 1 ≤ n) (l Bs n₀ c₀ b off cap : Nat) (xs : List Nat) (hreach : xs.length < 1000000) (hb : b < n₀ ∧ b ≠ c₀) (hbB : Bs < n₀ ∧ Bs ≠ c₀) (J Jx : List (Nat × Nat) → World → Prop)
    (hY : ∀ pre x W, J pre W → pre.length < xs.length → YieldAt F (n - 1) Tryz.prog l #[.int .i64 (x.1 : Int), .int .u32 (x.2 : Int)] W fun e W' =>
      (e = .returned (.bool true) ∧ J (pre ++ [x]) W' ∧ Keeps3 n₀ c₀ W W') ∨ (e = .returned (.bool false) ∧ Jx (pre ++ [x]) W'))
    (W : World) (hBs : W.cell? ⟨Bs, 0, none⟩ = some (.slice (some ⟨b, off, none⟩) xs.length cap)) (hc : ∀ j, j < xs.length → W.cell? ⟨b, off + j, none⟩ = some (.int .u32 ((xs.getD j 0 : Nat) : Int))) (h0 : J [] W) :
    CallsIn F n Tryz.prog 140 #[.func (.yield l) #[] #[], .pointer (some ⟨Bs, 0, none⟩)] W fun e W' => (∃ v, e = .returned v) ∧
      ((∃ ys, ys = bupto (bfn xs) xs.length ∧ J ys W') ∨ (∃ pre, (∃ k, k ≤ xs.length ∧ pre = bupto (bfn xs) k) ∧ Jx pre W')) := by
  refine callsIn_of_wp Tryz.func140 rfl h8 ?_ hro
  simp only [Tryz.ntmps140, List.size_toArray, List.length_cons, List.length_nil, Nat.reduceAdd, Nat.reduceSub, Array.replicate_succ, Array.replicate_zero, List.push_toArray, List.append_toArray, List.nil_append, List.cons_append]
  gi_wp2
  gi_loopw [3] (fun i wr => ∃ k : Nat, k ≤ xs.length ∧ i = .int .i64 ((xs.length : Int) - 1 - k) ∧ J (bupto (bfn xs) k) wr ∧ Keeps3 n₀ c₀ W wr)
    (fun i _ => (intOf i + 1).toNat)
  case atStart => exact ⟨0, Nat.zero_le _, by simp, h0, .refl _ _ _⟩
  case round =>
    obtain ⟨k, hk, rfl, hJs, hnx⟩ := hrel
    by_cases hlt : k < xs.length
    · obtain ⟨j, hj⟩ : ∃ j, j = xs.length - 1 - k := ⟨_, rfl⟩
      have hij : (xs.length : Int) - 1 - (k : Int) = (j : Int) := by omega
      have hjl : j < xs.length := by omega
      have hcx : wr.cell? ⟨b, off + j, none⟩ = some (.int .u32 ((xs.getD j 0 : Nat) : Int)) := (hnx.cell (p := ⟨b, off + j, none⟩) hb.1 hb.2).trans (hc j hjl)
      have hbs : wr.cell? ⟨Bs, 0, none⟩ = some (.slice (some ⟨b, off, none⟩) xs.length cap) := (hnx.cell (p := ⟨Bs, 0, none⟩) hbB.1 hbB.2).trans hBs
      obtain ⟨fn, tmps, assign, body, hy, hR⟩ := hY _ (bfn xs k) wr hJs (by rw [bupto_length]; exact hlt)
      have hbf : bfn xs k = (j, xs.getD j 0) := by unfold bfn; rw [← hj]
      have hsc : bupto (bfn xs) k ++ [(j, xs.getD j 0)] = bupto (bfn xs) (k + 1) := by rw [bupto_succ, hbf]
      rw [hbf, hsc] at hR
      rw [hbf] at hy
      dsimp only at hy
      rw [hij]
      have hi1 : (xs.length : Int) - 1 - (k : Int) ≤ (j : Int) := by omega
      have hi2 : (j : Int) ≤ (xs.length : Int) - 1 - (k : Int) := by omega
      generalize xs.getD j 0 = z at *
      clear hj hij hbf hsc
      gi_wp2
      refine hR.mono ?_
      rintro e W3 (⟨rfl, hJ3, hk3⟩ | ⟨rfl, hJx3⟩)
      · gi_wp2
        go_roundw
        case rel => exact ⟨k + 1, by omega, by congr 1; omega, hJ3, hnx.trans hk3⟩
        case measure => simp [intOf]
      · gi_wp2
        refine bodyPost_ret (results_none rfl _ _ _) rfl ?_
        exact ⟨⟨_, rfl⟩, .inr ⟨_, ⟨k + 1, by omega, rfl⟩, hJx3⟩⟩
    · obtain rfl : k = xs.length := by omega
      gi_wp2
      go_end0
      exact ⟨⟨_, rfl⟩, .inl ⟨_, rfl, hJs⟩⟩

set_option maxRecDepth 100000 in
set_option maxHeartbeats 1000000 in
/-- .. where there are no limbs: no round. -/
theorem back0_in (F : Fence) (n : Nat) (h8 : F.fn 140) (hro : F.round = none) (l Bs : Nat) (A : Option Addr) (cap : Nat) (J : List (Nat × Nat) → World → Prop) (W : World) (hBs : W.cell? ⟨Bs, 0, none⟩ = some (.slice A 0 cap)) (h0 : J [] W) :
    CallsIn F n Tryz.prog 140 #[.func (.yield l) #[] #[], .pointer (some ⟨Bs, 0, none⟩)] W fun e W' => (∃ v, e = .returned v) ∧ J [] W' := by
  refine callsIn_of_wp Tryz.func140 rfl h8 ?_ hro
  simp only [Tryz.ntmps140, List.size_toArray, List.length_cons, List.length_nil, Nat.reduceAdd, Nat.reduceSub, Array.replicate_succ, Array.replicate_zero, List.push_toArray, List.append_toArray, List.nil_append, List.cons_append]
  gi_wp2
  gi_loopw [3] (fun i wr => i = .int .i64 (-1) ∧ J [] wr) (fun _ _ => 0)
  case atStart => exact ⟨rfl, h0⟩
  case round =>
    obtain ⟨rfl, hJs⟩ := hrel
    gi_wp2
    go_end0
    exact ⟨⟨_, rfl⟩, hJs⟩

set_option maxHeartbeats 1000000 in
/-- slices.Backward: the slice value is boxed; the function value captures the box. -/
theorem back_in (F : Fence) (n : Nat) (h6 : F.fn 114) (hro : F.round = none) (a : Option Addr) (len cap : Nat) (w : World) :
    CallsIn F n Tryz.prog 114 #[.slice a len cap] w fun e w' => e = .returned (.func (.func 140) #[] #[.pointer (some ⟨w.heap.size, 0, none⟩)]) ∧ w' = w.alloc (.cells #[.slice a len cap] 22) := by
  refine callsIn_of_wp Tryz.func114 rfl h6 ?_ hro
  simp only [Tryz.ntmps114, List.size_toArray, List.length_cons, List.length_nil, Nat.reduceAdd, Nat.reduceSub, Array.replicate_succ, Array.replicate_zero, List.push_toArray, List.append_toArray, List.nil_append, List.cons_append]
  gi_wp2
  go_ret
  exact ⟨rfl, rfl⟩

theorem Limbs.below {n₀ c₀ : Nat} {A B : World} (h : Keeps3 n₀ c₀ A B) {sv : Value} {zs : List Nat} : Limbs n₀ c₀ A sv zs → Limbs n₀ c₀ B sv zs
  | .inl e => .inl e
  | .inr ⟨b, off, cap, e, hb, hc⟩ => .inr ⟨b, off, cap, e, hb, fun j hj => (h.cell (p := ⟨b, off + j, none⟩) hb.1 hb.2).trans (hc j hj)⟩
theorem keeps3_of_below {n c : Nat} {A B : World} (h : Below n A B) : Keeps3 n c A B := ⟨⟨h.os, h.output⟩, h.size, fun k hk _ => h.block k hk⟩

theorem back_stops (F : Fence) (n : Nat) (h8 : F.fn 140) (hro : F.round = none) (hn : 1 ≤ n) (Bs n₀ c₀ : Nat) (sv : Value) (xs : List Nat) (hreach : xs.length < 1000000) (w : World) (hBs : Bs < n₀ ∧ Bs ≠ c₀) (hn₀ : n₀ ≤ w.heap.size)
    (hc : w.cell? ⟨Bs, 0, none⟩ = some sv) (hI : Limbs n₀ c₀ w sv xs) :
    SeqStopsK F n Tryz.prog 140 #[.pointer (some ⟨Bs, 0, none⟩)] (fun x : Nat × Nat => #[Value.int .i64 (x.1 : Int), Value.int .u32 (x.2 : Int)]) (Keeps3 n₀ c₀) (fun ys => ys = bupto (bfn xs) xs.length)
      (fun pre => ∃ k, k ≤ xs.length ∧ pre = bupto (bfn xs) k) xs.length w := fun l J Jx W hW _ _ hY h0 => by
  have hc' := (hW.cell (p := ⟨Bs, 0, none⟩) (show Bs < w.heap.size by omega)).trans hc
  rcases hI.below (keeps3_of_below (hW.mono hn₀)) with ⟨rfl, A, cap, rfl⟩ | ⟨b, off, cap, rfl, hb, hcs⟩
  · exact (back0_in F n h8 hro l Bs A cap J W hc' h0).mono fun e W' ⟨he, hj⟩ => ⟨he, .inl ⟨_, rfl, hj⟩⟩
  · exact back1_in F n h8 hro hn l Bs n₀ c₀ b off cap xs hreach hb hBs J Jx hY W hc' hcs h0
end Go.Proofs.YtgnfgaioeldagaaGreat
