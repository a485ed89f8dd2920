/- At every input the call answers true and leaves its arguments as they were; no conditions. -/
import Derived.Test.YtfgejnedaijjiaaGreatCc
import Derived.Test.YtfgejnedaijjiaaGreatMg
set_option linter.unusedSimpArgs false
set_option linter.unusedVariables false
namespace Go.Proofs.YtfgejnedaijjiaaGreat
open Go Go.Abs
set_option maxHeartbeats 8000000
/-- A form as a method's receiver. -/
abbrev xF (f : Fm) : Heap := upd noH PIN (some ((cF f).map .t))
theorem xF_low {f : Fm} (b : Nat) (h : b < PIN) : xF f b = none := by
  show (if b = PIN then _ else none) = none
  rw [if_neg (by omega)]
theorem xF_dom {f g : Fm} (b : Nat) : xF f b = none ↔ xF g b = none := by
  show (if b = PIN then some _ else none) = none ↔ (if b = PIN then some _ else none) = none
  split <;> simp
theorem xF_cl {f : Fm} (b : Nat) (cs : List C) (h : xF f b = some cs) : ∀ c ∈ cs, inC (xF f) c := by
  have h : (if b = PIN then some ((cF f).map .t) else none) = some cs := h
  split at h
  · cases h
    intro c hc
    obtain ⟨t, _, rfl⟩ := List.mem_map.1 hc
    trivial
  · cases h
set_option maxRecDepth 100000 in
theorem c_most (f : Fm) (k : Int) {N L : Nat} (hN : N ≤ 1000000) (hN1 : 1 ≤ N) (hL : L ≤ 40000) (wf : WF f) (hf : Bd N L f) (hk : lN k ≤ L) :
    MCall Tryz.prog 87 [.one (.ptr PIN 0), .agg [.t (.lit (.bool (decide (k < 0)))), .t (eN (dig k.natAbs))]] (xF f) (.tup []) (xF (addF f (scF (constF k) (-1)))) := by
  refine mcall_of_wpX mixed Tryz.call87 Tryz.func87 rfl Tryz.ntmps87 Tryz.results87 (by simp) (by decide) ?_ ?_ ?_ ?_ ?_
  · exact xF_low
  · exact fun b => xF_dom b
  · exact xF_cl
  · trivial
  · have o1 := l_Const_e k (by omega)
    have o2 := l_Sub_e f (constF k) (N := N) (L := L) hN hL wf (by exact trivial) hf ⟨by show 0 ≤ N; omega, (fun m hm => by cases hm), hk⟩
    simp only [go_sem, PIN]
    (repeat (refine And.intro (by omega) ?_))
    refine regA_by 0 rfl ?_
    simp only [go_sem, PIN]
    ((repeat (refine regA_by 0 rfl ?_; simp only [go_sem, PIN])); refine call_pure (o1) rfl ?_; simp only [go_sem, PIN]; (repeat (refine regA_by 0 rfl ?_; simp only [go_sem, PIN])); refine call_pure (o2) rfl ?_; simp only [go_sem, PIN]; (repeat (refine regA_by 0 rfl ?_; simp only [go_sem, PIN])))
    refine ⟨.inl rfl, (fun x hx => by cases hx), rfl, fun b hb => ?_⟩
    have hb : 1000000 ≤ b := hb
    generalize addF f (scF (constF k) (-1)) = g
    show (if b = 1000000 then some _ else if b = 3 then some _ else if b = 1000000 then some _ else none) = if b = 1000000 then some _ else none
    by_cases e : b = 1000000
    · rw [if_pos e, if_pos e]; rfl
    · rw [if_neg e, if_neg e, if_neg (by omega), if_neg e]
end Go.Proofs.YtfgejnedaijjiaaGreat
namespace Go.Proofs.YtfgejnedaijjiaaGreat
open Go Go.Abs
set_option maxHeartbeats 8000000
set_option maxRecDepth 100000 in
theorem c_put (f : Fm) (k : Int) (v : Nat) {N L : Nat} (hN : N ≤ 1000000) (hN1 : 1 ≤ N) (hL : L ≤ 40000) (wf : WF f) (hf : Bd N L f) (hk : lN k + 1 ≤ L) (hv : v < 9223372036854775808) :
    MCall Tryz.prog 86 [.one (.ptr PIN 0), .agg [.t (.lit (.bool (decide (k < 0)))), .t (eN (dig k.natAbs))], .one (.t (.seq (some false) [[.lit (.int .i64 v)]]))] (xF f) (.tup []) (xF (addF f (scF (varF v) k))) := by
  refine mcall_of_wpX mixed Tryz.call86 Tryz.func86 rfl Tryz.ntmps86 Tryz.results86 (by simp) (by decide) ?_ ?_ ?_ ?_ ?_
  · exact xF_low
  · exact fun b => xF_dom b
  · exact xF_cl
  · trivial
  · have o1 := l_Var v (by omega) (by omega)
    rw [Int.toNat_natCast] at o1
    have bv : Bd N L (varF v) := ⟨hN1, (fun m hm => by obtain rfl := List.mem_singleton.1 hm; exact ⟨by show v < _; omega, by show lN 1 ≤ L; have : lN 1 ≤ 1 := lN_small (by omega); omega⟩), by show lN 0 ≤ L; rw [lN_zero]; omega⟩
    have wv : WF (varF v) := ⟨Nat.zero_le _, (by show (1 : Int) ≠ 0; decide), trivial⟩
    have b1 : Bd 1 1 (varF v) := ⟨Nat.le_refl _, (fun m hm => by obtain rfl := List.mem_singleton.1 hm; exact ⟨by show v < _; omega, lN_small (by omega)⟩), by show lN 0 ≤ 1; rw [lN_zero]; omega⟩
    have o2 := l_Scale_e (varF v) k (N := 1) (L := 1) (by decide) (by decide) wv b1 (by omega)
    obtain ⟨Fi, hFi⟩ : ∃ Fi : Nat → Fm, Fi = fun i => if i = 0 then f else addF f (scF (varF v) k) := ⟨_, rfl⟩
    simp only [go_sem, PIN]
    (repeat (refine And.intro (by omega) ?_))
    refine loop_inv (fun i : Nat => stL 27 [(0, .one (.ptr 1000000 0)), (4, .one (.ptr 4 0)), (8, .one (.t (.seq (some false) [[.lit (.int .i64 v)]]))), (9, litI .i64 1), (10, litI .i64 i)]
      [(4, [.t (.lit (.bool (decide (k < 0)))), .t (eN (dig k.natAbs))]), (1000000, (cF (Fi i)).map .t)]) (fun i => i ≤ 1) (fun i => 1 - i) 0 ?_ (Nat.zero_le _) ?_
    · rw [show Fi 0 = f by rw [hFi]; rfl]
      (refine gstep_list rfl ?_ ?_ ?_ ?_ <;> (try simp only [go_sem, tail_one, PIN]) <;> (try simp))
    · intro i hi
      simp only [go_sem, PIN]
      refine CondR_if (fun hlt => ?_) (fun hge => ?_)
      · obtain rfl : i = 0 := by omega
        rw [show Fi 0 = f by rw [hFi]; rfl]
        have bs := Bd_sc b1 k
        have o3 := l_Add_e f (scF (varF v) k) (N := N) (L := L) hN (by omega) wf (WF_sc wv k) hf ⟨by have := bs.1; omega, fun m hm => by have := bs.2.1 m hm; exact ⟨this.1, by omega⟩, by have := bs.2.2; omega⟩
        have hF1 : addF f (scF (varF v) k) = Fi 1 := by rw [hFi]; rfl
        rw [hF1] at o3
        generalize scF (varF v) k = w at *
        generalize hF : Fi 1 = F1 at *
        simp only [go_sem, PIN]
        refine ⟨by simp, regA_by 0 rfl ?_⟩
        simp only [go_sem, PIN]
        ((repeat (refine regA_by 0 rfl ?_; simp only [go_sem, PIN])); refine call_pure (o1) rfl ?_; simp only [go_sem, PIN]; (repeat (refine regA_by 0 rfl ?_; simp only [go_sem, PIN])); refine call_pure (o2) rfl ?_; simp only [go_sem, PIN]; (repeat (refine regA_by 0 rfl ?_; simp only [go_sem, PIN])); refine call_pure (o3) rfl ?_; simp only [go_sem, PIN]; (repeat (refine regA_by 0 rfl ?_; simp only [go_sem, PIN])))
        refine ⟨1, Nat.le_refl _, (by decide), ?_⟩
        (refine gstep_list rfl ?_ ?_ ?_ ?_ <;> (try simp only [go_sem, tail_one, PIN, hF, wrap_i64 (n := (0 : Int) + 1) (by omega) (by omega), wrap_i64 (n := 1) (by omega) (by omega)]) <;> (try simp))
      · obtain rfl : i = 1 := by omega
        rw [show addF f (scF (varF v) k) = Fi 1 by rw [hFi]; rfl]
        generalize Fi 1 = F1 at *
        simp only [go_sem, PIN]
        refine ⟨.inl rfl, (fun x hx => by cases hx), rfl, fun b hb => ?_⟩
        have hb : 1000000 ≤ b := hb
        show (if b = 4 then some _ else if b = 1000000 then some _ else none) = if b = 1000000 then some _ else none
        rw [if_neg (by omega)]
        by_cases e : b = 1000000
        · rw [if_pos e, if_pos e]; rfl
        · rw [if_neg e, if_neg e]
end Go.Proofs.YtfgejnedaijjiaaGreat
namespace Go.Proofs.YtfgejnedaijjiaaGreat
open Go Go.Abs
set_option maxHeartbeats 8000000
/-- A method of a form that lies in the caller's own block d. -/
theorem call_xF {m : Nat} {F : FuncId} {ys args : List AV} {f g : Fm} {σ : St} {K : AV → St → Prop} (d : Nat) (h : MCall Tryz.prog F args (xF f) (.tup []) (xF g)) (hm : m = 1 ∨ m = 2) (has : ys = args.map (thA (fun _ => d)))
    (hargs : ∀ x ∈ args, inA (xF f) x) (hH : σ.H d = some ((cF f).map .t)) (hK : K (.tup []) (σ.withH (upd σ.H d (some ((cF g).map .t))))) : CallA Tryz.prog m F ys σ K := by
  have hx : ∀ {f : Fm} {b : Nat}, xF f b ≠ none → b = PIN := fun {f b} h => by
    by_cases e : b = PIN
    · exact e
    · exact (h (show (if b = PIN then some ((cF f).map C.t) else none) = none from if_neg e)).elim
  have hs : ∀ {f : Fm} {b : Nat} {cs : List C}, xF f b = some cs → cs = (cF f).map .t := fun {f b cs} h => by
    have h : (if b = PIN then some ((cF f).map C.t) else none) = some cs := h
    split at h
    · cases h; rfl
    · cases h
  have hid : ∀ f : Fm, ((cF f).map C.t).map (thC fun _ => d) = (cF f).map .t := fun f => rfl
  refine call_ren (fun _ => d) hm h has xF_low (fun b => xF_dom b) (fun b b' h h' _ => (hx h).trans (hx h').symm) xF_cl hargs (fun b cs hb => ?_) (fun b cs hb => ?_) (fun b hb => ?_) hK
  · rw [hs hb, hid]; exact hH
  · rw [hs hb, hid]; exact if_pos rfl
  · exact if_neg (fun e => hb PIN (by show (if PIN = PIN then some _ else none) ≠ none; simp) e.symm)
end Go.Proofs.YtfgejnedaijjiaaGreat
namespace Go.Proofs.YtfgejnedaijjiaaGreat
open Go Go.Abs
set_option maxHeartbeats 8000000
theorem HR.weakH {ρ : Nat → Option Nat} {ok : Nat → Prop} {H : Heap} {w : World} (h : HR ρ ok H w) {b : Nat} {cs cs' : List C} (hb : H b = some cs) (hw : WeakL cs cs') : HR ρ ok (upd H b (some cs')) w := by
  refine ⟨fun b' cs2 hb' => ?_, fun b' hb' => ?_, h.inj, h.okR⟩
  · simp only [upd] at hb'
    split at hb'
    · rename_i e; subst e; cases hb'
      obtain ⟨c, arr, el, k1, k2, k3, k4⟩ := h.heap _ _ hb
      exact ⟨c, arr, el, k1, k2, by rw [← hw.len]; exact k3, fun j hj hj' => (k4 j (by rw [hw.len]; exact hj) hj').weakC (hw.get j _ hj)⟩
    · exact h.heap b' cs2 hb'
  · simp only [upd] at hb'
    split at hb'
    · cases hb'
    · exact h.dom b' hb'
theorem call_weakH {P : Program} {m : Nat} {f : FuncId} {args : List AV} {H' : Heap} {r : AV} {σ : St} {K : AV → St → Prop} (hm : m = 1 ∨ m = 2) {b : Nat} {cs cs' : List C} (hb : σ.H b = some cs) (hw : WeakL cs cs')
    (h : MCall P f args (upd σ.H b (some cs')) r H') (hK : K r (σ.withH H')) : CallA P m f args σ K :=
  .inr (.inl ⟨hm, _, _, ⟨h.1, fun ρ ok w vs hh ha => h.2 ρ ok w vs (HR.weakH hh hb hw) ha⟩, hK⟩)
end Go.Proofs.YtfgejnedaijjiaaGreat
namespace Go.Proofs.YtfgejnedaijjiaaGreat
open Go Go.Abs
set_option maxHeartbeats 8000000
/-- The same, where the block began as noughts. -/
theorem call_xFw {m : Nat} {F : FuncId} {ys args : List AV} {f g : Fm} {σ : St} {K : AV → St → Prop} (d : Nat) {cs : List C} (h : MCall Tryz.prog F args (xF f) (.tup []) (xF g)) (hm : m = 1 ∨ m = 2) (has : ys = args.map (thA (fun _ => d)))
    (hargs : ∀ x ∈ args, inA (xF f) x) (hH : σ.H d = some cs) (hw : WeakL cs ((cF f).map .t)) (hK : K (.tup []) (σ.withH (upd σ.H d (some ((cF g).map .t))))) : CallA Tryz.prog m F ys σ K := by
  subst has
  refine call_weakH (H' := upd σ.H d (some ((cF g).map .t))) hm hH hw ?_ hK
  have hx : ∀ {f : Fm} {b : Nat}, xF f b ≠ none → b = PIN := fun {f b} h => by
    by_cases e : b = PIN
    · exact e
    · exact (h (show (if b = PIN then some ((cF f).map C.t) else none) = none from if_neg e)).elim
  have hs : ∀ {f : Fm} {b : Nat} {cs : List C}, xF f b = some cs → cs = (cF f).map .t := fun {f b cs} h => by
    have h : (if b = PIN then some ((cF f).map C.t) else none) = some cs := h
    split at h
    · cases h; rfl
    · cases h
  have hid : ∀ f : Fm, ((cF f).map C.t).map (thC fun _ => d) = (cF f).map .t := fun f => rfl
  refine h.ren (fun _ => d) xF_low (fun b => xF_dom b) (fun b b' h h' _ => (hx h).trans (hx h').symm) xF_cl hargs (fun b cs hb => ?_) (fun b cs hb => ?_) (fun b hb => ?_)
  · rw [hs hb, hid]; exact if_pos rfl
  · rw [hs hb, hid]; exact if_pos rfl
  · have hbd : b ≠ d := fun e => hb PIN (by show (if PIN = PIN then some _ else none) ≠ none; simp) e.symm
    exact (if_neg hbd).trans (if_neg hbd).symm
end Go.Proofs.YtfgejnedaijjiaaGreat
namespace Go.Proofs.YtfgejnedaijjiaaGreat
open Go Go.Abs
set_option maxHeartbeats 8000000
theorem xF_p {f : Fm} : inA (xF f) (.one (.ptr PIN 0)) := by show (if PIN = PIN then some _ else none) ≠ none; simp
theorem inA_t2 {X : Heap} {x y : T} : inA X (.agg [.t x, .t y]) := by
  intro c hc
  rcases List.mem_cons.1 hc with rfl | hc
  · trivial
  · obtain rfl := List.mem_singleton.1 hc; trivial
theorem weak_cF0 : WeakL [.t (.seq (some true) []), .t (.lit (.bool false)), .t (.seq (some true) [])] ((cF ([], 0)).map .t) := by
  show WeakL _ [.t (eL cMn []), .t (.lit (.bool false)), .t (eN (dig 0))]
  rw [dig_zero]
  exact .cons .seq (.cons .refl (.cons .seq .nil))
set_option maxRecDepth 100000 in
theorem c_Branch (vi : Int) (q : QQ) {K : Nat} (hv1 : -9223372036854775808 ≤ vi) (hv2 : vi < 9223372036854775808) (hK : K ≤ 1800) (hK1 : 1 ≤ K) (h1 : q.2.1.length ≤ K) (h2 : q.2.2.length ≤ K) (F : Fm) (hF : F = addF (addF ([], 0) (scF (varF vi.toNat) 1)) (scF (constF (qQ q).floor) (-1))) :
    PCall Tryz.prog 38 [tI .i64 vi, .agg (cQ q)] (.tup [eF F, eF (notF F)]) := by
  refine pcall_of_wpA mixed Tryz.call38 Tryz.func38 rfl Tryz.ntmps38 Tryz.results38 (by simp) (by decide) ?_
  obtain ⟨v, hvv⟩ : ∃ v, v = vi.toNat := ⟨_, rfl⟩
  rw [← hvv] at hF
  have hv : v < 9223372036854775808 := by omega
  have o0 := w_Of 1 (by decide) (by decide)
  have o1 := q_Floor q.1 q.2.1 q.2.2 (by omega) (by omega)
  have wv : WF (varF v) := ⟨Nat.zero_le _, (by show (1 : Int) ≠ 0; decide), trivial⟩
  have p1 := c_put ([], 0) 1 v (N := 1) (L := 2) (by decide) (by decide) (by decide) trivial ⟨by decide, (fun m hm => by cases hm), by show lN 0 ≤ 2; rw [lN_zero]; omega⟩ (by have : lN 1 ≤ 1 := lN_small (by omega); omega) hv
  simp only [go_sem]
  (repeat (refine And.intro (by omega) ?_))
  refine call_pure o0 rfl ?_
  simp only [go_sem]
  refine opA_max rfl (by simp only [go_sem] <;> rfl) (by simp only [go_sem] <;> rfl) (Nat.le_refl _) ?_
  rw [show (if (0 : Int) > vi then (0 : Int) else vi) = (v : Int) by split <;> omega]
  simp only [go_sem]
  refine call_xFw 6 (cs := [.t (.seq (some true) []), .t (.lit (.bool false)), .t (.seq (some true) [])]) p1 (by decide) rfl ?_ (by simp only [go_sem] <;> rfl) ?_ ?_
  · exact List.forall_mem_cons.2 ⟨xF_p, List.forall_mem_cons.2 ⟨inA_t2, List.forall_mem_cons.2 ⟨trivial, fun x hx => by cases hx⟩⟩⟩
  · exact weak_cF0
  · have b1 : Bd 1 1 (varF v) := ⟨Nat.le_refl _, (fun m hm => by obtain rfl := List.mem_singleton.1 hm; exact ⟨by show v < _; omega, lN_small (by omega)⟩), by show lN 0 ≤ 1; rw [lN_zero]; omega⟩
    have b2 : Bd 1 2 (scF (varF v) 1) := by
      have := Bd_sc b1 1
      have h1 : lN 1 ≤ 1 := lN_small (by omega)
      exact ⟨this.1, fun m hm => ⟨(this.2.1 m hm).1, by have := (this.2.1 m hm).2; omega⟩, by have := this.2.2; omega⟩
    have b3 := Bd_add (a := ([], 0)) (N := 0) (L := 0) ⟨Nat.le_refl _, (fun m hm => by cases hm), by show lN 0 ≤ 0; rw [lN_zero]; omega⟩ b2
    have w3 : WF (addF ([], 0) (scF (varF v) 1)) := WF_add trivial (WF_sc wv 1)
    have lq := lQ_qv q.1 q.2.1 q.2.2
    unfold qQ at hF
    generalize addF ([], 0) (scF (varF v) 1) = f1 at *
    generalize qv q.1 q.2.1 q.2.2 = r at *
    have lfl : lN r.floor ≤ 2000 := by have := lN_floor r; have := lQ_num r; omega
    have p2 := c_most f1 r.floor (N := 1) (L := 2000) (by decide) (by decide) (by decide) w3 ⟨by have := b3.1; omega, (fun m hm => by have := b3.2.1 m hm; exact ⟨this.1, by omega⟩), by have := b3.2.2; omega⟩ lfl
    have bc : Bd 0 2000 (constF r.floor) := ⟨Nat.le_refl _, (fun m hm => by cases hm), lfl⟩
    have bF := Bd_add b3 (Bd_sc bc (-1))
    have wF : WF (addF f1 (scF (constF r.floor) (-1))) := WF_add w3 (WF_sc (show WF (constF r.floor) from trivial) (-1))
    have hm1 : lN (-1) ≤ 1 := lN_small (by omega)
    rw [← hF] at p2 bF wF
    have p3 := b_Not_e F (by decide) (by omega) (by omega) wF bF
    simp only [go_sem]
    refine call_pure o1 rfl ?_
    simp only [go_sem]
    refine call_xF 6 p2 (by decide) rfl (List.forall_mem_cons.2 ⟨xF_p, List.forall_mem_cons.2 ⟨inA_t2, fun x hx => by cases hx⟩⟩) (by simp only [go_sem] <;> rfl) ?_
    simp only [go_sem]
    refine regA_by 0 rfl ?_
    simp only [go_sem]
    ((repeat (refine regA_by 0 rfl ?_; simp only [go_sem])); refine call_pure (p3) rfl ?_; simp only [go_sem]; (repeat (refine regA_by 0 rfl ?_; simp only [go_sem])))
    exact fz_tup2 (fz_agg3 .t .t .t) (fz_agg3 .t .t .t)
end Go.Proofs.YtfgejnedaijjiaaGreat
