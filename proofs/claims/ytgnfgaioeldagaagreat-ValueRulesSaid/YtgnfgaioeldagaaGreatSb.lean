/- At every input the call answers true and leaves its arguments as they were; no conditions. -/
import Derived.Test.YtgnfgaioeldagaaGreatQa
import Derived.Test.YtgnfgaioeldagaaGreatKa
import Derived.Test.YtgnfgaioeldagaaGreatSx
set_option linter.unusedSimpArgs false
set_option linter.unusedVariables false
namespace Go.Proofs.YtgnfgaioeldagaaGreat
open Go Go.Abs
set_option maxHeartbeats 4000000
/-- Code, the parts behind n left out. -/
def takeSeq : Nat → Code → Code
  | 0, _ => .skip
  | n + 1, .seq x y => .seq x (takeSeq n y)
  | _ + 1, c => .scope c
theorem takeSeq_zero (c : Code) : takeSeq 0 c = .skip := rfl
theorem takeSeq_succ (n : Nat) (x y : Code) : takeSeq (n + 1) (.seq x y) = .seq x (takeSeq n y) := rfl
def onlyN (K : St → Prop) : Exit → St → Prop
  | .normal, σ => K σ
  | _, _ => False

theorem split_sound {P : Program} (hm : P.follows .mixedOrders = true) {K : St → Prop} {R : Exit → Act → World → Prop} : ∀ (n : Nat) (c : Code) (σ : St) (ρ : Nat → Option Nat) (ok : Nat → Prop) (a : Act) (w : World), SR ρ ok σ a w →
    wpA P (takeSeq n c) (onlyN K) σ → (∀ σ' ρ' ok' a' w', K σ' → SR ρ' ok' σ' a' w' → Goes ρ ok w ρ' ok' w' → (dropSeq n c).wp P R a' w') → c.wp P R a w := by
  intro n
  induction n with
  | zero => intro c σ ρ ok a w h hr ht; exact ht σ ρ ok a w hr h (Goes.refl _ _ _)
  | succ n ih =>
    intro c σ ρ ok a w h hr ht
    cases c with
    | seq x y =>
      rw [takeSeq_succ] at hr
      refine wp_seq (Code.wp_mono ?_ (code_sound hm x _ σ ρ ok a w h hr))
      rintro e a' w' ⟨σ', ρ', ok', q, s, g⟩
      cases e with
      | normal => exact ih y σ' ρ' ok' a' w' s q (fun σ'' ρ'' ok'' a'' w'' k s' g' => ht σ'' ρ'' ok'' a'' w'' k s' (g.trans g'))
      | _ => exact q.elim
    | _ => exact hr.elim

/-- What the tail of Small finds. -/
structure TailOk (ok : Nat → Prop) (w : World) (neg : Bool) (xs : List Nat) (a' : Act) (w' : World) (c4 c6 : Nat) : Prop where
  defers : a'.defers = []
  size : a'.tmps.size = 38
  t4 : a'.tmps.getD 4 undef = .pointer (some ⟨c4, 0, none⟩)
  t6 : a'.tmps.getD 6 undef = .pointer (some ⟨c6, 0, none⟩)
  s4 : ∃ A len cap, w'.cell? ⟨c4, 0, none⟩ = some (.slice A len cap) ∧ Limbs w'.heap.size c6 w' (.slice A len cap) xs
  n4 : w'.cell? ⟨c4, 1, none⟩ = some (.bool neg)
  u6 : w'.cell? ⟨c6, 0, none⟩ = some (.int .u64 0)
  f6 : w'.frozen? ⟨c6, 0, none⟩ = false
  ne : c4 ≠ c6
  lt : c4 < w'.heap.size ∧ c6 < w'.heap.size
  old : w.heap.size ≤ w'.heap.size ∧ w.heap.size ≤ c6
  same : ∀ n, n < w.heap.size → w'.heap[n]? = w.heap[n]?
  env : w'.os = w.os ∧ w'.output = w.output

theorem limbs_of {w : World} {ok : Nat → Prop} {ρ : Nat → Option Nat} {xs : List Nat} {v : Value} {N c : Nat} (h : RC w ok ρ (.t (eN xs)) v) (hok : ∀ n, ok n → n < N ∧ n ≠ c) : ∃ A len cap, v = .slice A len cap ∧ Limbs N c w (.slice A len cap) xs := by
  cases h with
  | t h =>
    cases h with
    | @seq nl ys A n cp sz u blk off g1 g2 g0 g3 g4 g5 g6 g7 g8 =>
      refine ⟨A, n, cp, rfl, ?_⟩
      have hn : n = xs.length := by rw [g1]; simp
      by_cases hx : xs = []
      · left; subst hx; exact ⟨rfl, A, cp, by rw [hn]; rfl⟩
      · right
        obtain ⟨hA, hb⟩ := g6 (by intro e; exact hx (List.map_eq_nil_iff.1 e))
        refine ⟨blk, off, cp, by rw [hA, hn], hok _ hb, fun j hj => ?_⟩
        have hj' : j < (xs.map limb).length := by simpa using hj
        have hsz : sz = 1 := by
          have := g5 _ (List.getElem_mem hj')
          rw [List.getElem_map, limb_len] at this; exact this.symm
        have h1 := g7 j hj' 0 (by rw [List.getElem_map, limb_len]; omega)
        have h2 := g8 j hj' 0 (by rw [List.getElem_map, limb_len]; omega)
        rw [hsz, Nat.mul_one, Nat.add_zero] at h1
        rw [h1]
        congr 1
        have e : ((xs.map limb)[j]'hj')[0]'(by rw [List.getElem_map, limb_len]; omega) = T.lit (.int .u32 (xs[j] : Int)) := by
          simp [limb]
        rw [e] at h2
        generalize u j 0 = uv at *
        cases h2 with
        | lit _ => simp [hj]

set_option maxRecDepth 100000 in
theorem small_prefix (s : Bool) (a : List Nat) (ha : a.length ≤ 9223372036854775807) (h1 : -9223372036854775808 ≤ iv s a) (h2 : iv s a < 9223372036854775808) {R : Exit → Act → World → Prop} {ok : Nat → Prop} {w : World} {vs : Array Value} (hok : ∀ n, ok n → n < w.heap.size)
    (hv : RArgs w ok noρ ([gI s a].map emb) vs) (ht : ∀ a' w' c4 c6, TailOk ok w (decide (iv s a < 0)) (dig (iv s a).natAbs) a' w' c4 c6 → smallTail.wp Tryz.prog R a' w') {c : Code} (hc : (Tryz.f81).body = some c) :
    c.wp Tryz.prog R { tmps := vs ++ Array.replicate (38 - vs.size) undef, defers := [] } w := by
  have htl : smallTail = dropSeq 6 c := by unfold smallTail; rw [hc]
  refine split_sound (K := fun σ => σ.n = 38 ∧ σ.s 4 = .one (.ptr 4 0) ∧ σ.s 6 = .one (.ptr 6 0) ∧ σ.H 4 = some [.t (eN (dig (iv s a).natAbs)), .t (.lit (.bool (decide (iv s a < 0))))] ∧ σ.H 6 = some [.t (.lit (.int .u64 0))]) mixed 6 c (initSt 38 ([gI s a].map emb) noH) noρ ok _ w
    (init_SR ⟨fun b cs hb => (by cases hb), fun _ _ => rfl, fun _ _ _ h => (by cases h), fun n hn => ⟨hok n hn, fun _ h => (by cases h)⟩⟩ hv (by rw [hv.1]; simp) (by decide)) ?_ ?_
  · have hof := w_of'_a s a (by omega)
    have hl1 := iv_len s a
    generalize iv s a = x at *
    clear ht
    have hc' : c = (match (Tryz.f81).body with | some c => c | none => .skip) := by rw [hc]
    subst hc'
    simp only [Tryz.f81, takeSeq_succ, takeSeq_zero]
    obtain ⟨t1, ht1⟩ : ∃ t : Nat, t = 9223372036854775807 := ⟨_, rfl⟩
    obtain ⟨t2, ht2⟩ : ∃ t : Nat, t = 9223372036854775808 := ⟨_, rfl⟩
    have o1 : PCall Tryz.prog 112 [tI .u64 9223372036854775807] (tN (dig t1)) := by rw [ht1]; exact p_nat_Of 9223372036854775807 (by decide)
    have o2 : PCall Tryz.prog 112 [tI .u64 9223372036854775808] (tN (dig t2)) := by rw [ht2]; exact p_nat_Of 9223372036854775808 (by decide)
    have z1 : (dig t1).length ≤ 3 := dig_length_le (by rw [ht1]; decide)
    have z2 : (dig t2).length ≤ 3 := dig_length_le (by rw [ht2]; decide)
    have v1 := w_over_a (dig x.natAbs) (dig t1) (by omega) (by omega)
    have v2 := w_over_a (dig x.natAbs) (dig t2) (by omega) (by omega)
    rw [vN_dig, vN_dig] at v1 v2
    by_cases hn : x < 0
    · have v3 := tB_not v2 (by omega)
      simp only [go_sem, onlyN]
      (repeat (first | (refine regA_by 0 rfl ?_; simp only [go_sem, hn, onlyN]) | (refine call_pure (hof) rfl ?_; simp only [go_sem, hn, onlyN]) | (refine call_pure (o1) rfl ?_; simp only [go_sem, hn, onlyN]) | (refine call_pure (o2) rfl ?_; simp only [go_sem, hn, onlyN]) | (refine call_pure (v3) rfl ?_; simp only [go_sem, hn, onlyN])))
    · have v3 := tB_not v1 (by omega)
      simp only [go_sem, onlyN]
      (repeat (first | (refine regA_by 0 rfl ?_; simp only [go_sem, hn, onlyN]) | (refine call_pure (hof) rfl ?_; simp only [go_sem, hn, onlyN]) | (refine call_pure (o1) rfl ?_; simp only [go_sem, hn, onlyN]) | (refine call_pure (o2) rfl ?_; simp only [go_sem, hn, onlyN]) | (refine call_pure (v3) rfl ?_; simp only [go_sem, hn, onlyN])))
  · rintro σ' ρ' ok' a' w' ⟨k1, k2, k3, k4, k5⟩ sr g
    rw [← htl]
    obtain ⟨c4, arr4, el4, p1, p2, p3, p4⟩ := sr.heap 4 _ k4
    obtain ⟨c6, arr6, el6, q1, q2, q3, q4⟩ := sr.heap 6 _ k5
    have hne : c4 ≠ c6 := fun e => by have := sr.inj 4 6 c4 p1 (e ▸ q1); omega
    have ht4 := sr.slots 4
    rw [k2] at ht4
    have ht6 := sr.slots 6
    rw [k3] at ht6
    have e4 : a'.tmps.getD 4 undef = .pointer (some ⟨c4, 0, none⟩) := by
      generalize a'.tmps.getD 4 undef = v at *
      cases ht4 with
      | one h => cases h with
        | ptr h => rw [p1] at h; cases h; rfl
    have e6 : a'.tmps.getD 6 undef = .pointer (some ⟨c6, 0, none⟩) := by
      generalize a'.tmps.getD 6 undef = v at *
      cases ht6 with
      | one h => cases h with
        | ptr h => rw [q1] at h; cases h; rfl
    simp only [List.length_cons, List.length_nil] at p3 q3
    have r0 := p4 0 (by simp) (by omega)
    have r1 := p4 1 (by simp) (by omega)
    have r6 := q4 0 (by simp) (by omega)
    simp only [List.getElem_cons_zero, List.getElem_cons_succ] at r0 r1 r6
    have hlt4 : c4 < w'.heap.size := (Array.getElem?_eq_some_iff.1 p2).1
    have hlt6 : c6 < w'.heap.size := (Array.getElem?_eq_some_iff.1 q2).1
    obtain ⟨A, len, cap, ev, hL⟩ := limbs_of (N := w'.heap.size) (c := c6) r0 (fun n hn => ⟨(sr.okR n hn).1, fun e => (sr.okR n hn).2 6 (e ▸ q1)⟩)
    refine ht a' w' c4 c6 ⟨sr.defers, by rw [sr.size, k1], e4, e6, ⟨A, len, cap, ?_, hL⟩, ?_, ?_, ?_, hne, ⟨hlt4, hlt6⟩, ⟨g.size, ?_⟩, fun n hn => g.same n hn (fun b hb => by cases hb), g.env⟩
    · simp [World.cell?, p2, ← ev]
    · have : arr4[1]'(by omega) = .bool (decide (iv s a < 0)) := by
        cases r1 with
        | t h => generalize arr4[1]'(by omega) = v at *; cases h; rfl
      simp [World.cell?, p2, ← this]
    · have : arr6[0]'(by omega) = .int .u64 0 := by
        cases r6 with
        | t h => generalize arr6[0]'(by omega) = v at *; cases h; rfl
      simp [World.cell?, q2, ← this]
    · simp [World.frozen?, q2]
    · rcases g.img 6 c6 q1 with ⟨b', hb⟩ | hb
      · cases hb
      · exact hb
end Go.Proofs.YtgnfgaioeldagaaGreat
