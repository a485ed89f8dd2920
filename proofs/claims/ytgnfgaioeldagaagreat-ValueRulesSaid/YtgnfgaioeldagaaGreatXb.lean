/- At every input the call answers true and leaves its arguments as they were; no conditions. -/
import Derived.Test.YtgnfgaioeldagaaGreatVg
import Derived.Test.YtgnfgaioeldagaaGreatXa
set_option linter.unusedSimpArgs false
set_option linter.unusedVariables false
namespace Go.Proofs.YtgnfgaioeldagaaGreat
open Go Go.Abs
/-! ### What the library's stand-ins tell -/
theorem cmp_bytes : ∀ a b : List UInt8, Lib.compareBytes a b = if Op.bytesLess a b then -1 else if a = b then 0 else 1
  | [], [] => rfl
  | [], _ :: _ => rfl
  | _ :: _, [] => rfl
  | a :: xs, b :: bs => by
    unfold Lib.compareBytes Op.bytesLess
    rw [cmp_bytes xs bs]
    by_cases h1 : a < b
    · rw [if_pos h1, decide_eq_true h1]; rfl
    · rw [if_neg h1, decide_eq_false h1, Bool.false_or]
      by_cases h2 : b < a
      · rw [if_pos h2]
        have hne : ¬ a = b := fun e => by rw [e] at h2; exact UInt8.lt_irrefl b h2
        rw [show (a == b) = false from by simpa using hne, Bool.false_and, if_neg (by simp), if_neg (fun e => hne (List.cons.inj e).1)]
      · rw [if_neg h2]
        have he : a = b := by
          apply UInt8.toNat_inj.1
          rw [UInt8.lt_iff_toNat_lt] at h1 h2
          omega
        subst he
        rw [beq_self_eq_true, Bool.true_and]
        by_cases h3 : xs = bs
        · rw [if_pos (c := xs = bs) h3, if_pos (c := a :: xs = a :: bs) (by rw [h3])]
        · rw [if_neg (c := xs = bs) h3, if_neg (c := a :: xs = a :: bs) (fun e => h3 (List.cons.inj e).2)]
theorem cmp_sCmp (a b : ByteArray) : Lib.compareBytes a.data.toList b.data.toList = sCmp a b := by
  rw [cmp_bytes]
  unfold sCmp sLt
  rw [ByteArray.toList_eq, ByteArray.toList_eq]
  have e : (a.data.toList = b.data.toList) = (a = b) := propext ⟨fun h => bytes_ext (by rw [ByteArray.toList_eq, ByteArray.toList_eq]; exact h), fun h => by rw [h]⟩
  simp only [e]
theorem idx_mem (c : UInt8) : ∀ l : List UInt8, (0 ≤ Lib.indexByte l c) ↔ c ∈ l
  | [] => by simp [Lib.indexByte]
  | b :: l => by
    have ih := idx_mem c l
    have hge := Lib.indexByte_ge l c
    unfold Lib.indexByte
    by_cases h : b = c
    · rw [if_pos (by simpa using h)]
      simp [h]
    · rw [if_neg (by simpa using h)]
      have : c ∈ b :: l ↔ c ∈ l := by rw [List.mem_cons]; exact ⟨fun h2 => h2.resolve_left fun e => h e.symm, .inr⟩
      rw [this, ← ih]
      generalize Lib.indexByte l c = n at *
      split
      · rename_i e
        have e : n = -1 := by simpa using e
        omega
      · rename_i e
        have e : ¬ n = -1 := by simpa using e
        omega
theorem args2 {w : World} {ok : Nat → Prop} {vs : Array Value} {x y : Value} (h : RArgs w ok noρ ([TV.one (.lit x), TV.one (.lit y)].map emb) vs) : vs = #[x, y] := by
  obtain ⟨hs, hg⟩ := h
  have hs : vs.size = 2 := hs
  have h0 := hg 0 (by simp) (by omega)
  have h1 := hg 1 (by simp) (by omega)
  have key : ∀ {u v : Value}, RA w ok noρ (emb (.one (.lit u))) v → v = u := fun {u v} h => by cases h with | one h => cases h with | t h => cases h with | lit _ => rfl
  have e0 : vs[0] = x := key h0
  have e1 : vs[1] = y := key h1
  apply Array.ext
  · rw [hs]; rfl
  · intro i h1 h2
    have : i = 0 ∨ i = 1 := by omega
    rcases this with rfl | rfl
    · exact e0
    · exact e1
theorem x_CompareP (a b : ByteArray) : PCall Tryz.prog 100 [tS a, tS b] (tI .i64 (sCmp a b)) := by
  refine ⟨Tryz.call100, fun ok w vs hok hv => ?_⟩
  obtain rfl := args2 hv
  refine (x_Compare a b w).mono ?_
  rintro e w' ⟨rfl, rfl⟩
  exact ⟨_, ok, by rw [cmp_sCmp], .one (.t (.lit rfl)), Goes.refl _ _ _, hok⟩
theorem x_IndexP (s : ByteArray) (c : Int) : PCall Tryz.prog 153 [tS s, tI .u8 c] (tI .i64 (Lib.indexByte s.data.toList c.toNat.toUInt8)) := by
  refine ⟨Tryz.call153, fun ok w vs hok hv => ?_⟩
  obtain rfl := args2 hv
  refine (x_IndexByte s c w).mono ?_
  rintro e w' ⟨rfl, rfl⟩
  exact ⟨_, ok, rfl, .one (.t (.lit rfl)), Goes.refl _ _ _, hok⟩
set_option maxRecDepth 100000 in
theorem cmpSpec : CmpSpec := by
  intro a b
  have h := x_CompareP a b
  refine pcall_of_wpA mixed Tryz.call62 Tryz.func62 rfl Tryz.ntmps62 Tryz.results62 (by simp) (by decide) ?_
  simp only [go_sem]
  refine call_pure h rfl ?_
  simp only [go_sem]
set_option maxRecDepth 100000 in
theorem idxSpec : IdxSpec := by
  intro c
  have h := x_IndexP marksS (c.toNat : Int)
  refine ⟨Lib.indexByte marksS.data.toList c, ?_, ?_⟩
  · rw [Bool.eq_iff_iff, decide_eq_true_eq, idx_mem]
    have key : ∀ n : Fin 256, decide (UInt8.ofNat n.val ∈ marksS.data.toList) = marksL.contains n.val := by decide +kernel
    have h2 := key ⟨c.toNat, UInt8.toNat_lt c⟩
    rw [show UInt8.ofNat c.toNat = c from UInt8.ofNat_toNat] at h2
    rw [← h2, decide_eq_true_eq]
  · rw [show ((c.toNat : Int).toNat.toUInt8) = c by simp] at h
    generalize Lib.indexByte marksS.data.toList c = n at *
    refine pcall_of_wpA mixed Tryz.call138 Tryz.func138 rfl Tryz.ntmps138 Tryz.results138 (by simp) (by decide) ?_
    simp only [go_sem]
    refine call_pure h rfl ?_
    simp only [go_sem]
end Go.Proofs.YtgnfgaioeldagaaGreat
