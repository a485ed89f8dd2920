/- At every input the call answers true and leaves its arguments as they were; no conditions. -/
import Derived.Test.YtjmbhknhiakkpaaGreatQe
import Derived.Test.YtjmbhknhiakkpaaGreatMi
import Derived.Test.YtjmbhknhiakkpaaGreatNy
set_option linter.unusedSimpArgs false
set_option linter.unusedVariables false
namespace Go.Proofs.YtjmbhknhiakkpaaGreat
open Go Go.Abs
set_option maxHeartbeats 16000000
/-! ### A maker in memory: all rows are one family; the last matrix's rows stand in another order -/
def cJ (z : Int) : List T := [.lit (.bool (decide (z < 0))), eN (dig z.natAbs)]
theorem cJ_len (z : Int) : (cJ z).length = 2 := rfl
attribute [go_sem] cJ
structure MX where
  n : Nat
  R : Nat
  g : Nat → Nat → Int
  s : Nat → Nat
def prmC (b sz len : Nat) (s : Nat → Nat) (n : Nat) : List C := (List.range n).map fun i => .vec (b + s i) sz 0 len
theorem prmC_len {b sz len n : Nat} {s : Nat → Nat} : (prmC b sz len s n).length = n := by unfold prmC; simp
theorem prmC_at {b sz len n i : Nat} {s : Nat → Nat} (h : i < n) : (prmC b sz len s n).drop i = .vec (b + s i) sz 0 len :: (prmC b sz len s n).drop (i + 1) := by
  rw [List.drop_eq_getElem_cons (by rw [prmC_len]; exact h)]
  congr 1
  have h' : i < ((List.range n).map fun i => C.vec (b + s i) sz 0 len).length := by simpa using h
  show ((List.range n).map fun i => C.vec (b + s i) sz 0 len)[i]'h' = _
  simp
theorem prmC_set {b sz len n i k : Nat} {s : Nat → Nat} : (prmC b sz len s n).set i (.vec (b + k) sz 0 len) = prmC b sz len (fun j => if j = i then k else s j) n := by
  apply List.ext_getElem
  · simp [prmC]
  · intro j h1 h2
    rw [List.getElem_set]
    have h3 : j < n := by rw [prmC_len] at h2; exact h2
    have e : ∀ (s : Nat → Nat) (h : j < (prmC b sz len s n).length), (prmC b sz len s n)[j]'h = .vec (b + s j) sz 0 len := fun s h => by
      have h' : j < ((List.range n).map fun i => C.vec (b + s i) sz 0 len).length := by simpa using h3
      show ((List.range n).map fun i => C.vec (b + s i) sz 0 len)[j]'h' = _
      simp
    rw [e, e]
    by_cases c : i = j
    · rw [if_pos c, if_pos c.symm]
    · rw [if_neg c, if_neg (fun h => c h.symm)]
theorem prmC_th {b sz len n : Nat} {s : Nat → Nat} {θ : Nat → Nat} (h : ∀ i, i < n → thI θ (b + s i) = thI θ b + s i) : (prmC b sz len s n).map (thC θ) = prmC (thI θ b) sz len s n := by
  unfold prmC
  rw [List.map_map]
  exact List.map_congr_left fun i hi => by show C.vec (thI θ (b + s i)) sz 0 len = _; rw [h i (List.mem_range.1 hi)]
abbrev MX.N (M : MX) : Nat := M.R + M.n + M.n
def mk4 (b : Nat) (M : MX) : List (Nat × List C) := [(b, [.vec (b + 1) 1 0 M.R, .vec (b + 2) 1 0 M.n, .vec (b + 3) 1 0 M.n]), (b + 1, rowsC (b + 100) 2 M.n M.R), (b + 2, rowsC (b + 100 + M.R) 2 M.n M.n), (b + 3, prmC (b + 100 + M.R + M.n) 2 M.n M.s M.n)]
def mkL (b : Nat) (M : MX) : List (Nat × List C) := famE (b + 100) cJ (fun i => fnG M.n (M.g i)) M.N ++ mk4 b M
def mkE (b : Nat) (M : MX) (e : List (Nat × List C)) : List (Nat × List C) := mkL b M ++ e
def xM (M : MX) : Heap := lookH (mkE PIN M [])
theorem mkE_nil (b : Nat) (M : MX) : mkE b M [] = mkL b M := List.append_nil _
theorem xM_def (M : MX) : xM M = lookH (mkL PIN M) := by unfold xM; rw [mkE_nil]
theorem mk_keys (b : Nat) (M : MX) : (mkL b M).map (·.1) = famD (b + 100) M.N ++ [b, b + 1, b + 2, b + 3] := by
  unfold mkL; rw [List.map_append, map_famE]; rfl
theorem mk_key {b k : Nat} {M : MX} (h : k ∈ (mkL b M).map (·.1)) : b ≤ k ∧ k < b + 100 + M.N := by
  rw [mk_keys] at h
  rcases List.mem_append.1 h with h | h
  · unfold famD at h
    obtain ⟨i, hi, rfl⟩ := List.mem_map.1 h
    have := List.mem_range.1 hi; omega
  · simp only [List.mem_cons, List.not_mem_nil, or_false] at h; omega
theorem mk_at (b : Nat) (M : MX) (k : Nat) : lookH (mkL b M) (b + k) = if 100 ≤ k ∧ k < 100 + M.N then some (cellsL cJ (fnG M.n (M.g (k - 100)))) else if k = 0 then some [.vec (b + 1) 1 0 M.R, .vec (b + 2) 1 0 M.n, .vec (b + 3) 1 0 M.n]
    else if k = 1 then some (rowsC (b + 100) 2 M.n M.R) else if k = 2 then some (rowsC (b + 100 + M.R) 2 M.n M.n) else if k = 3 then some (prmC (b + 100 + M.R + M.n) 2 M.n M.s M.n) else none := by
  unfold mkL
  rw [lookH_fam]
  by_cases c1 : 100 ≤ k ∧ k < 100 + M.N
  · rw [if_pos c1, if_pos ⟨by omega, by omega⟩, show b + k - (b + 100) = k - 100 by omega]
  · rw [if_neg c1, if_neg (fun h => c1 ⟨by omega, by omega⟩)]
    show (if b + k = b then _ else if b + k = b + 1 then _ else if b + k = b + 2 then _ else if b + k = b + 3 then _ else none) = _
    by_cases k0 : k = 0
    · rw [if_pos (by omega), if_pos k0]
    · rw [if_neg (by omega), if_neg k0]
      by_cases k1 : k = 1
      · rw [if_pos (by omega), if_pos k1]
      · rw [if_neg (by omega), if_neg k1]
        by_cases k2 : k = 2
        · rw [if_pos (by omega), if_pos k2]
        · rw [if_neg (by omega), if_neg k2]
          by_cases k3 : k = 3
          · rw [if_pos (by omega), if_pos k3]
          · rw [if_neg (by omega), if_neg k3]
theorem mk_low (M : MX) (b : Nat) (h : b < PIN) : xM M b = none := by rw [xM_def]; exact low_of (fun k hk => (mk_key hk).1) b h
theorem mk_dom {M M' : MX} (h1 : M'.n = M.n) (h2 : M'.R = M.R) (b : Nat) : xM M' b = none ↔ xM M b = none := by
  rw [xM_def, xM_def, lookH_dom, lookH_dom, mk_keys, mk_keys]
  unfold MX.N; rw [h1, h2]
theorem mk_cont {b k : Nat} {M : MX} {e : List (Nat × List C)} {D : List Nat} : ((mkL b M).map (·.1) ++ D).contains (b + k) = (decide (100 ≤ k ∧ k < 100 + M.N) || (decide (k < 4) || D.contains (b + k))) := by
  rw [mk_keys, List.append_assoc, contains_fam]
  have : (decide (b + 100 ≤ b + k) && decide (b + k < b + 100 + M.N)) = decide (100 ≤ k ∧ k < 100 + M.N) := by
    rw [Bool.eq_iff_iff]; simp; omega
  rw [this]
  congr 1
  rw [Bool.eq_iff_iff]
  simp
  constructor
  · rintro (h | h | h | h | h)
    · left; omega
    · left; omega
    · left; omega
    · left; omega
    · right; exact h
  · rintro (h | h)
    · have : k = 0 ∨ k = 1 ∨ k = 2 ∨ k = 3 := by omega
      rcases this with rfl | rfl | rfl | rfl <;> simp
    · simp [h]
theorem prmC_refs {b sz len n : Nat} {s : Nat → Nat} {D : List Nat} (h : ∀ i, i < n → b + s i ∈ D) : (prmC b sz len s n).all (refsC D) = true := by
  unfold prmC
  rw [List.all_eq_true]
  intro c hc
  obtain ⟨i, hi, rfl⟩ := List.mem_map.1 hc
  show D.contains (b + s i) = true
  rw [List.contains_iff_mem]; exact h i (List.mem_range.1 hi)
theorem mk_memF {b i : Nat} {M : MX} {D : List Nat} (h : i < M.N) : b + 100 + i ∈ (mkL b M).map (·.1) ++ D := by
  rw [mk_keys]
  refine List.mem_append_left _ (List.mem_append_left _ ?_)
  unfold famD
  exact List.mem_map.2 ⟨i, List.mem_range.2 h, rfl⟩
theorem mk_mem4 {b i : Nat} {M : MX} {D : List Nat} (h : i < 4) : b + i ∈ (mkL b M).map (·.1) ++ D := by
  rw [mk_keys]
  refine List.mem_append_left _ (List.mem_append_right _ ?_)
  have : i = 0 ∨ i = 1 ∨ i = 2 ∨ i = 3 := by omega
  rcases this with rfl | rfl | rfl | rfl <;> simp
def MX.Ok (M : MX) : Prop := ∀ i, i < M.n → M.s i < M.n
theorem mk_refs' (b : Nat) (M : MX) (hs : M.Ok) (D : List Nat) : refsH ((mkL b M).map (·.1) ++ D) (mkL b M) = true := by
  have hD : ∀ i, i < 4 → refsC ((mkL b M).map (·.1) ++ D) (.vec (b + i) 1 0 0) = true := fun i hi => by
    show List.contains _ _ = true
    rw [List.contains_iff_mem]; exact mk_mem4 hi
  generalize hE : (mkL b M).map (·.1) ++ D = E at *
  unfold mkL
  rw [refsH_fam]
  unfold mk4
  simp only [refsH, List.all_cons, List.all_nil, Bool.and_true, Bool.and_eq_true]
  refine ⟨⟨hD 1 (by omega), hD 2 (by omega), hD 3 (by omega)⟩, rowsC_refs' fun i hi => ?_, rowsC_refs' fun i hi => ?_, prmC_refs fun i hi => ?_⟩
  · rw [← hE]; exact mk_memF (by unfold MX.N; omega)
  · rw [← hE, Nat.add_assoc]; exact mk_memF (by unfold MX.N; omega)
  · have := hs i hi
    rw [← hE, show b + 100 + M.R + M.n + M.s i = b + 100 + (M.R + M.n + M.s i) by omega]; exact mk_memF (by unfold MX.N; omega)
theorem mk_refs (b : Nat) (M : MX) (hs : M.Ok) : refsH ((mkL b M).map (·.1)) (mkL b M) = true := by
  have := mk_refs' b M hs []
  rwa [List.append_nil] at this
theorem mk_cl (M : MX) (hs : M.Ok) : ∀ b cs, xM M b = some cs → ∀ c ∈ cs, inC (xM M) c := by rw [xM_def]; exact cl_of_refs (mk_refs PIN M hs)
theorem mk_p {M : MX} : inA (xM M) (.one (.ptr PIN 0)) := by
  show xM M PIN ≠ none
  rw [xM_def, Ne, lookH_dom, mk_keys]
  intro h; exact h (by simp)
theorem cellsL_th {α : Type} {f : α → List T} {xs : List α} {θ : Nat → Nat} : (cellsL f xs).map (thC θ) = cellsL f xs := by
  unfold cellsL; rw [List.map_map]; rfl
theorem thI_add {d k : Nat} : thI (fun k => d + k) (PIN + k) = d + k := by show d + (PIN + k - PIN) = d + k; omega
theorem mk_th (d : Nat) (M : MX) (k : Nat) {cs : List C} (h : xM M (PIN + k) = some cs) : lookH (mkL d M) (d + k) = some (cs.map (thC fun k => d + k)) := by
  rw [xM_def, mk_at] at h
  rw [mk_at]
  split
  · rename_i c; rw [if_pos c] at h; cases h; rw [cellsL_th]
  · rename_i c; rw [if_neg c] at h
    split
    · rename_i c; rw [if_pos c] at h; cases h
      show some [_, _, _] = some [C.vec (thI (fun k => d + k) (PIN + 1)) 1 0 M.R, C.vec (thI (fun k => d + k) (PIN + 2)) 1 0 M.n, C.vec (thI (fun k => d + k) (PIN + 3)) 1 0 M.n]
      rw [thI_add, thI_add, thI_add]
    · rename_i c; rw [if_neg c] at h
      split
      · rename_i c; rw [if_pos c] at h; cases h
        rw [rowsC_th fun i hi => by rw [thI_add, show PIN + 100 + i = PIN + (100 + i) by omega, thI_add]; omega, thI_add]
      · rename_i c; rw [if_neg c] at h
        split
        · rename_i c; rw [if_pos c] at h; cases h
          rw [show PIN + 100 + M.R = PIN + (100 + M.R) by omega, rowsC_th fun i hi => by rw [thI_add, show PIN + (100 + M.R) + i = PIN + (100 + M.R + i) by omega, thI_add]; omega, thI_add, Nat.add_assoc]
        · rename_i c; rw [if_neg c] at h
          split
          · rename_i c; rw [if_pos c] at h; cases h
            rw [show PIN + 100 + M.R + M.n = PIN + (100 + M.R + M.n) by omega, prmC_th fun i hi => by rw [thI_add, show PIN + (100 + M.R + M.n) + M.s i = PIN + (100 + M.R + M.n + M.s i) by omega, thI_add]; omega, thI_add, show d + 100 + M.R + M.n = d + (100 + M.R + M.n) by omega]
          · rename_i c; rw [if_neg c] at h; cases h
theorem xM_in {M : MX} {b : Nat} (h : xM M b ≠ none) : PIN ≤ b ∧ b < PIN + 100 + M.N := by
  rw [xM_def, Ne, lookH_dom] at h
  exact mk_key (Classical.not_not.1 h)
/-- What a heap holds where a maker lies. -/
def AtM (H : Heap) (b : Nat) (M : MX) : Prop := ∀ k cs, lookH (mkL b M) (b + k) = some cs → H (b + k) = some cs
/-- A call that reads a maker. -/
theorem rd_mk {F : FuncId} {ys args : List AV} {M : MX} {H : Heap} {r : AV} (d : Nat) (h : MCall Tryz.prog F args (xM M) r (xM M)) (hs : M.Ok) (has : ys = args.map (thA (fun k => d + k))) (hargs : ∀ x ∈ args, inA (xM M) x)
    (hH : AtM H d M) : RdC Tryz.prog F ys H (thA (fun k => d + k) r) := by
  subst has
  have hk : ∀ b, PIN ≤ b → PIN + (b - PIN) = b := fun b hb => by omega
  refine rd_ren (fun k => d + k) h (mk_low M) (fun b b' hb hb' e => ?_) (mk_cl M hs) hargs fun b cs hb => ?_
  · have h1 := xM_in hb
    have h2 := xM_in hb'
    have e : d + (b - PIN) = d + (b' - PIN) := e
    omega
  · have h1 := xM_in (b := b) (M := M) (by rw [hb]; simp)
    exact hH (b - PIN) _ (mk_th d M _ (by rw [hk b h1.1]; exact hb))
/-- A call that changes it. -/
theorem call_mk {m : Nat} {F : FuncId} {ys args : List AV} {M M' : MX} {σ : St} {K : AV → St → Prop} {r : AV} (d : Nat) (hm : m = 1 ∨ m = 2) (h : MCall Tryz.prog F args (xM M) r (xM M')) (hs : M.Ok) (hn : M'.n = M.n) (hR : M'.R = M.R) (has : ys = args.map (thA (fun k => d + k))) (hargs : ∀ x ∈ args, inA (xM M) x)
    (hH : AtM σ.H d M) (hK : K (thA (fun k => d + k) r) (σ.withH (fun t => (lookH (mkL d M') t).or (σ.H t)))) : CallA Tryz.prog m F ys σ K := by
  have hk : ∀ b, PIN ≤ b → PIN + (b - PIN) = b := fun b hb => by omega
  refine call_ren (fun k => d + k) hm h has (mk_low M) (mk_dom hn hR) (fun b b' hb hb' e => ?_) (mk_cl M hs) hargs (fun b cs hb => ?_) (fun b cs hb => ?_) (fun b hb => ?_) hK
  · have h1 := xM_in hb
    have h2 := xM_in hb'
    have e : d + (b - PIN) = d + (b' - PIN) := e
    omega
  · have h1 := xM_in (b := b) (M := M) (by rw [hb]; simp)
    exact hH (b - PIN) _ (mk_th d M _ (by rw [hk b h1.1]; exact hb))
  · have h1 := xM_in (b := b) (M := M') (by rw [hb]; simp)
    show (lookH (mkL d M') (d + (b - PIN))).or _ = _
    rw [mk_th d M' _ (by rw [hk b h1.1]; exact hb)]; rfl
  · show (lookH (mkL d M') b).or (σ.H b) = σ.H b
    cases hx : lookH (mkL d M') b with
    | none => rfl
    | some cs =>
      exfalso
      have hm : b ∈ (mkL d M').map (·.1) := Classical.byContradiction fun hno => by rw [lookH_none hno] at hx; cases hx
      have hkey := mk_key hm
      have e : d + (b - d) = b := by omega
      refine hb (PIN + (b - d)) ?_ ?_
      · refine fun hnone => ?_
        have hnone' := (mk_dom hn hR _).2 hnone
        rw [xM_def, mk_at] at hnone'
        rw [← e, mk_at] at hx
        revert hnone' hx
        split
        · intro _ h1; cases h1
        · split
          · intro _ h1; cases h1
          · split
            · intro _ h1; cases h1
            · split
              · intro _ h1; cases h1
              · split
                · intro _ h1; cases h1
                · intro h1; cases h1
      · show d + (PIN + (b - d) - PIN) = b; omega
/-! ### Lookups -/
section
variable {b t i : Nat} {M : MX} {e : List (Nat × List C)} {D : List Nat}
theorem lookH_app : ∀ (l l' : List (Nat × List C)) (t : Nat), lookH (l ++ l') t = (lookH l t).or (lookH l' t)
  | [], _, _ => rfl
  | (k, v) :: l, l', t => by
    show (if t = k then some v else lookH (l ++ l') t) = (if t = k then some v else lookH l t).or _
    by_cases e : t = k
    · rw [if_pos e, if_pos e]; rfl
    · rw [if_neg e, if_neg e]; exact lookH_app l l' t
theorem mkE_at (k : Nat) : lookH (mkE b M e) (b + k) = (lookH (mkL b M) (b + k)).or (lookH e (b + k)) := lookH_app _ _ _
@[go_sem] theorem mkK0 : lookH (mkE b M e) b = some [.vec (b + 1) 1 0 M.R, .vec (b + 2) 1 0 M.n, .vec (b + 3) 1 0 M.n] := by
  have := mkE_at (b := b) (M := M) (e := e) 0
  rw [mk_at] at this
  rw [if_neg (by omega), if_pos rfl] at this
  exact this
@[go_sem] theorem mkK1 : lookH (mkE b M e) (b + 1) = some (rowsC (b + 100) 2 M.n M.R) := by
  rw [mkE_at, mk_at, if_neg (by omega), if_neg (by omega), if_pos rfl]; rfl
@[go_sem] theorem mkK2 : lookH (mkE b M e) (b + 2) = some (rowsC (b + 100 + M.R) 2 M.n M.n) := by
  rw [mkE_at, mk_at, if_neg (by omega), if_neg (by omega), if_neg (by omega), if_pos rfl]; rfl
@[go_sem] theorem mkK3 : lookH (mkE b M e) (b + 3) = some (prmC (b + 100 + M.R + M.n) 2 M.n M.s M.n) := by
  rw [mkE_at, mk_at, if_neg (by omega), if_neg (by omega), if_neg (by omega), if_neg (by omega), if_pos rfl]; rfl
theorem mkKf (h : i < M.N) : lookH (mkE b M e) (b + 100 + i) = some (cellsL cJ (fnG M.n (M.g i))) := by
  rw [show b + 100 + i = b + (100 + i) by omega, mkE_at, mk_at, if_pos ⟨by omega, by omega⟩, show 100 + i - 100 = i by omega]; rfl
theorem mkLo (h : t < b) : lookH (mkE b M e) t = lookH e t := by
  unfold mkE
  rw [lookH_app, lookH_none fun hm => by have := mk_key hm; omega]; rfl
theorem AllH_app {σ : St} : ∀ (l l' : List (Nat × List C)), AllH σ (l ++ l') = (AllH σ l ∧ AllH σ l')
  | [], l' => by simp [AllH]
  | (k, v) :: l, l' => by show (σ.H k = some v ∧ AllH σ (l ++ l')) = ((σ.H k = some v ∧ AllH σ l) ∧ AllH σ l'); rw [AllH_app l l', and_assoc]
@[go_sem] theorem AllH_mk {σ : St} : AllH σ (mkE b M e) = (AtM σ.H b M ∧ AllH σ e) := by
  unfold mkE
  rw [AllH_app]
  congr 1
  refine propext ⟨fun h k cs hk => (h.look _ _ hk).1, fun h => ?_⟩
  have h2 : ∀ k cs, lookH (mkL b M) k = some cs → σ.H k = some cs := fun k cs hk => by
    have hm : k ∈ (mkL b M).map (·.1) := Classical.byContradiction fun hn => by rw [lookH_none hn] at hk; cases hk
    have := mk_key hm
    have e : b + (k - b) = k := by omega
    rw [← e]
    exact h (k - b) cs (by rw [e]; exact hk)
  have h3 : ∀ k cs, lookH (mkE b M []) k = some cs → σ.H k = some cs := fun k cs hk => by rw [mkE_nil] at hk; exact h2 k cs hk
  unfold mkL
  rw [AllH_fam]
  exact ⟨fun i hi => h3 _ _ (mkKf hi), h3 _ _ mkK0, h3 _ _ mkK1, h3 _ _ mkK2, h3 _ _ mkK3, trivial⟩
@[go_sem] theorem AtM_self : AtM (lookH (mkE b M e)) b M = True := eq_true fun k cs h => by rw [mkE_at, h]; rfl
theorem AtM_upd {H : Heap} {x : Option (List C)} (h : t < b) : AtM (upd H t x) b M = AtM H b M := by
  refine propext ⟨fun h2 k cs hc => ?_, fun h2 k cs hc => ?_⟩
  · have := h2 k cs hc
    rw [upd_at, if_neg (by omega)] at this; exact this
  · rw [upd_at, if_neg (by omega)]; exact h2 k cs hc
/-- A row is written. -/
theorem AtM.row {H : Heap} {g' : Nat → Nat → Int} (h : AtM H b M) {r : Nat} (f : Nat → Int) (hg : ∀ i, i < M.N → ∀ j, j < M.n → g' i j = if i = r then f j else M.g i j) :
    AtM (upd H (b + 100 + r) (some (cellsL cJ (fnG M.n f)))) b ⟨M.n, M.R, g', M.s⟩ := fun k cs hc => by
  have h0 := h k
  rw [mk_at] at hc h0
  rw [upd_at]
  by_cases c1 : 100 ≤ k ∧ k < 100 + M.N
  · rw [if_pos (show 100 ≤ k ∧ k < 100 + MX.N ⟨M.n, M.R, g', M.s⟩ from c1)] at hc
    rw [if_pos c1] at h0
    have hc : some (cellsL cJ (fnG M.n (g' (k - 100)))) = some cs := hc
    rw [← hc]
    by_cases e : k = 100 + r
    · subst e
      rw [if_pos (by omega), show 100 + r - 100 = r by omega]
      congr 2
      exact fnG_congr fun j hj => by rw [hg r (by omega) j hj, if_pos rfl]
    · rw [if_neg (by omega), h0 _ rfl]
      congr 2
      exact fnG_congr fun j hj => by rw [hg _ (by omega) j hj, if_neg (by omega)]
  · rw [if_neg (show ¬ (100 ≤ k ∧ k < 100 + MX.N ⟨M.n, M.R, g', M.s⟩) from c1)] at hc
    rw [if_neg c1] at h0
    by_cases e : k = 100 + r
    · subst e
      revert hc
      rw [if_neg (by omega), if_neg (by omega), if_neg (by omega), if_neg (by omega)]
      intro hc; cases hc
    · rw [if_neg (by omega)]; exact h0 cs hc
theorem AtM.same {H : Heap} {g' : Nat → Nat → Int} (h : AtM H b M) (hg : ∀ i, i < M.N → ∀ j, j < M.n → g' i j = M.g i j) : AtM H b ⟨M.n, M.R, g', M.s⟩ := fun k cs hc => by
  refine h k cs ?_
  rw [mk_at] at hc ⊢
  by_cases c1 : 100 ≤ k ∧ k < 100 + M.N
  · rw [if_pos (show 100 ≤ k ∧ k < 100 + MX.N ⟨M.n, M.R, g', M.s⟩ from c1)] at hc
    rw [if_pos c1, ← hc]
    congr 2
    exact fnG_congr fun j hj => (hg _ (by omega) j hj).symm
  · rw [if_neg (show ¬ (100 ≤ k ∧ k < 100 + MX.N ⟨M.n, M.R, g', M.s⟩) from c1)] at hc
    rw [if_neg c1, ← hc]
/-- The order of the last matrix's rows is written. -/
theorem AtM.perm {H : Heap} {s' : Nat → Nat} (h : AtM H b M) : AtM (upd H (b + 3) (some (prmC (b + 100 + M.R + M.n) 2 M.n s' M.n))) b ⟨M.n, M.R, M.g, s'⟩ := fun k cs hc => by
  have h0 := h k cs
  rw [mk_at] at hc h0
  rw [upd_at]
  by_cases e : k = 3
  · subst e
    rw [if_pos rfl]
    rw [if_neg (by omega), if_neg (by omega), if_neg (by omega), if_neg (by omega), if_pos rfl] at hc
    exact hc
  · rw [if_neg (by omega)]
    refine h0 ?_
    rw [← hc, if_neg e, if_neg e]
def mkD (b : Nat) (M : MX) (D : List Nat) : List Nat := (mkL b M).map (·.1) ++ D
@[go_sem] theorem map_mkE : (mkE b M e).map (fun p => p.1) = mkD b M (e.map (fun p => p.1)) := by unfold mkE mkD; rw [List.map_append]
@[go_sem] theorem map_mkE' : (mkE b M e).map Prod.fst = mkD b M (e.map Prod.fst) := by unfold mkE mkD; rw [List.map_append]
theorem refsC_mono {D D' : List Nat} (h : ∀ x ∈ D, x ∈ D') {c : C} (hc : refsC D c = true) : refsC D' c = true := by
  have key : ∀ b, D.contains b = true → D'.contains b = true := fun b hb => by rw [List.contains_iff_mem] at hb ⊢; exact h b hb
  cases c with
  | t x => rfl
  | ptr b o => exact key b hc
  | vec b s o n => exact key b hc
  | fn f caps => exact List.all_eq_true.2 fun p hp => key _ (List.all_eq_true.1 hc p hp)
theorem refsH_mk (hs : M.Ok) : refsH (mkD b M D) (mkE b M e) = refsH (mkD b M D) e := by
  unfold mkE mkD
  rw [refsH_append, mk_refs' b M hs D, Bool.true_and]
theorem mk_ctf (h : i < M.N) : (mkD b M D).contains (b + 100 + i) = true := by
  rw [List.contains_iff_mem]; exact mk_memF h
theorem mk_ct4 (h : i < 4) : (mkD b M D).contains (b + i) = true := by
  rw [List.contains_iff_mem]; exact mk_mem4 h
@[go_sem] theorem mk_ct0 : (mkD b M D).contains b = true := mk_ct4 (i := 0) (by omega)
@[go_sem] theorem mk_ct1 : (mkD b M D).contains (b + 1) = true := mk_ct4 (i := 1) (by omega)
@[go_sem] theorem mk_ct2 : (mkD b M D).contains (b + 2) = true := mk_ct4 (i := 2) (by omega)
@[go_sem] theorem mk_ct3 : (mkD b M D).contains (b + 3) = true := mk_ct4 (i := 3) (by omega)
theorem mk_ctl {t : Nat} (h : t < b) : (mkD b M D).contains t = D.contains t := by
  have e : (mkD b M D).contains t = ((mkL b M).map (·.1) ++ D).contains t := rfl
  rw [e, Bool.eq_iff_iff, List.contains_iff_mem, List.contains_iff_mem, List.mem_append]
  exact ⟨fun h2 => h2.elim (fun hm => by have := mk_key hm; omega) id, .inr⟩
attribute [go_sem] false_and and_false Nat.add_lt_add_iff_left Nat.add_right_inj Nat.add_sub_cancel_left
/-- What a method leaves. -/
theorem xM_end {H : Heap} (h : AtM H PIN M) (hn : ∀ t, PIN ≤ t → lookH (mkL PIN M) t = none → H t = none) : ∀ t, PIN ≤ t → H t = xM M t := fun t ht => by
  rw [xM_def]
  cases hx : lookH (mkL PIN M) t with
  | none => exact hn t ht hx
  | some cs =>
    have e : PIN + (t - PIN) = t := by omega
    have h2 := h (t - PIN) cs
    rw [e] at h2
    exact h2 hx
end
end Go.Proofs.YtjmbhknhiakkpaaGreat
namespace Go.Proofs.YtjmbhknhiakkpaaGreat
open Go Go.Abs
set_option maxHeartbeats 32000000
theorem cJ_sd {n : Nat} {g : Nat → Int} {i : Nat} (hi : i < n) {q : Int} : (cellsL cJ (fnG n g)).take (i * 2) ++ C.t (.lit (.bool (decide (q < 0)))) :: C.t (eN (dig q.natAbs)) :: (cellsL cJ (fnG n g)).drop (i * 2 + 2) = cellsL cJ (fnG n (fun v => if v = i then q else g v)) := by
  have := cG_set (f := cJ) (sz := 2) cJ_len hi (g := g) (y := q)
  rw [← this]; simp [setCs, cJ]
theorem cJ_clen {n : Nat} {g : Nat → Int} : (cellsL cJ (fnG n g)).length = n * 2 := cG_len cJ_len
/-- The two matrices whose columns are changed, one behind the other. -/
theorem prm_sd {b sz len n i k : Nat} {s : Nat → Nat} (h : i < n) : (prmC b sz len s n).take i ++ C.vec (b + k) sz 0 len :: (prmC b sz len s n).drop (i + 1) = prmC b sz len (fun j => if j = i then k else s j) n := by
  rw [← prmC_set, List.set_eq_take_append_cons_drop, if_pos (by rw [prmC_len]; exact h)]
theorem upd2 {H : Heap} {t : Nat} {x y : Option (List C)} : upd (upd H t x) t y = upd H t y := by
  funext b; rw [upd_at, upd_at]
  by_cases e : b = t
  · rw [if_pos e, upd_at, if_pos e]
  · rw [if_neg e, upd_at, if_neg e, if_neg e]
/-- Blocks beside the maker's stay none. -/
theorem end_none {M M' : MX} (hn : M'.n = M.n) (hR : M'.R = M.R) {t k : Nat} {x : Option (List C)} (hk : k < 4 ∨ 100 ≤ k ∧ k < 100 + M.N) (h : lookH (mkL PIN M') t = none) : upd (lookH (mkE 1000000 M [])) (1000000 + k) x t = none := by
  have h1 : xM M t = none := (mk_dom hn hR t).1 (by rw [xM_def]; exact h)
  rw [upd_at, if_neg]
  · exact h1
  · intro e
    rw [xM_def, lookH_dom] at h1
    refine h1 ?_
    rw [e]
    rcases hk with hk | hk
    · have := mk_mem4 (b := PIN) (M := M) (D := []) hk
      rw [List.append_nil] at this; exact this
    · have := mk_memF (b := PIN) (M := M) (D := []) (i := k - 100) (by omega)
      rw [List.append_nil, show PIN + 100 + (k - 100) = PIN + k by omega] at this; exact this
def offM (M : MX) (t : Nat) : Nat := if t = 0 then 0 else M.R
def cntM (M : MX) (t : Nat) : Nat := if t = 0 then M.R else M.n
theorem offcnt {M : MX} {t i : Nat} (ht : t < 2) (hi : i < cntM M t) : offM M t + i < M.R + M.n := by
  unfold offM cntM at *
  split at hi <;> rename_i h <;> simp only [h, if_true, if_false] <;> omega
theorem off_next {M : MX} {t : Nat} (ht : t < 2) : offM M t + cntM M t = if t = 0 then M.R else M.R + M.n := by unfold offM cntM; split <;> omega
theorem hd_drop {M : MX} {t : Nat} (ht : t < 2) : ([C.vec 1000001 1 0 M.R, C.vec 1000002 1 0 M.n].drop t).headD default = .vec (1000001 + t) 1 0 (cntM M t) := by
  have : t = 0 ∨ t = 1 := by omega
  rcases this with rfl | rfl <;> rfl
theorem hd_look {M : MX} {t : Nat} {e : List (Nat × List C)} (ht : t < 2) : lookH (mkE 1000000 M e) (1000001 + t) = some (rowsC (1000100 + offM M t) 2 M.n (cntM M t)) := by
  have : t = 0 ∨ t = 1 := by omega
  rcases this with rfl | rfl
  · exact mkK1
  · exact mkK2
/-- So many rows have been done. -/
def MX.col (M : MX) (f : (Nat → Int) → Nat → Int) (m : Nat) : MX := ⟨M.n, M.R, fun q => if q < m then f (M.g q) else M.g q, M.s⟩
def MX.swap (M : MX) (i j : Nat) : MX := ⟨M.n, M.R, fun q => if q < M.R + M.n then fun c => M.g q (swN i j c) else M.g q, fun c => M.s (swN i j c)⟩
theorem col_row {M : MX} {f : (Nat → Int) → Nat → Int} {m : Nat} {g : Nat → Int} {H : Heap} {b : Nat} (h : AtM H b (M.col f m)) (hg : ∀ c, c < M.n → g c = f (M.g m) c) : AtM (upd H (b + 100 + m) (some (cellsL cJ (fnG M.n g)))) b (M.col f (m + 1)) := by
  refine AtM.row (M := M.col f m) h g fun i hi j hj => ?_
  show (if i < m + 1 then f (M.g i) else M.g i) j = if i = m then g j else (if i < m then f (M.g i) else M.g i) j
  by_cases e : i = m
  · rw [if_pos e, if_pos (by omega), e, hg j hj]
  · rw [if_neg e]
    by_cases e2 : i < m
    · rw [if_pos e2, if_pos (by omega)]
    · rw [if_neg e2, if_neg (by omega)]
theorem swN_i {i j : Nat} : swN i j i = j := if_pos rfl
theorem swN_j {i j : Nat} : swN i j j = i := by unfold swN; split <;> simp_all
theorem famNe {i t : Nat} (h : t < 1000100) : (1000100 + i = t) = False := eq_false (by omega)
theorem famNe' {i t : Nat} (h : t < 1000100) : (t = 1000100 + i) = False := eq_false (by omega)
theorem MX.swap_ok {M : MX} {i j : Nat} (hM : M.Ok) (hi : i < M.n) (hj : j < M.n) : (M.swap i j).Ok := fun c hc => hM _ (swN_lt hi hj hc)
set_option maxRecDepth 100000 in
theorem h_swap (M : MX) (i j : Nat) (hM : M.Ok) (hdim : M.N < 90000) (hi : i < M.n) (hj : j < M.n) (hne : i ≠ j) :
    MCall Tryz.prog 84 [.one (.ptr PIN 0), litI .i64 i, litI .i64 j] (xM M) (.tup []) (xM (M.swap i j)) := by
  refine mcall_of_wpX mixed Tryz.call84 Tryz.func84 rfl Tryz.ntmps84 Tryz.results84 (by simp) (by decide) ?_ ?_ ?_ ?_ ?_
  · exact mk_low _
  · exact mk_dom rfl rfl
  · exact mk_cl _ (M.swap_ok hM hi hj)
  · trivial
  · have hdim' : M.R + M.n + M.n < 90000 := hdim
    have hiI : ((i : Int) < (M.n : Int)) = True := eq_true (by omega)
    have hjI : ((j : Int) < (M.n : Int)) = True := eq_true (by omega)
    obtain ⟨f, hf⟩ : ∃ f : (Nat → Int) → Nat → Int, f = fun g c => g (swN i j c) := ⟨_, rfl⟩
    have hc0 : M.col f 0 = M := by unfold MX.col; simp
    have xw : xM M = lookH (mkE 1000000 (M.col f 0) []) := by rw [hc0]; rfl
    have hn : ∀ m, (M.col f m).n = M.n := fun m => rfl
    have hR : ∀ m, (M.col f m).R = M.R := fun m => rfl
    have hok : ∀ m, (M.col f m).Ok := fun m => hM
    have hrf : ∀ m D e, refsH (mkD 1000000 (M.col f m) D) (mkE 1000000 (M.col f m) e) = refsH (mkD 1000000 (M.col f m) D) e := fun m D e => refsH_mk (hok m)
    rw [xw]
    refine regA_by 0 rfl ?_
    simp only [go_sem, PIN, mkLo, hn, hR]
    refine loop_inv (fun t : Nat => stL 70 [(0, .one (.ptr 1000000 0)), (1, litI .i64 i), (2, litI .i64 j), (18, .agg [.vec 1000001 1 0 M.R, .vec 1000002 1 0 M.n]), (19, litI .i64 t)]
      (mkE 1000000 (M.col f (if t = 0 then 0 else if t = 1 then M.R else M.R + M.n)) [])) (fun t => t ≤ 2) (fun t => 2 - t) 0 ?_ (by decide) ?_
    · rw [if_pos rfl]
      (refine gstep_list rfl ?_ ?_ ?_ ?_ <;> (try simp only [go_sem, tail_one, hrf]) <;> (try simp only [true_or, or_true, or_false, beq_self_eq_true, and_self, true_and, and_true]))
    · intro t ht
      simp only [go_sem]
      refine CondR_if (fun hlt => ?_) (fun hge => ?_)
      · have hlt' : t < 2 := by omega
        have hd := hd_drop (M := M) hlt'
        have ho : (if t = 0 then 0 else if t = 1 then M.R else M.R + M.n) = offM M t := by
          have : t = 0 ∨ t = 1 := by omega
          rcases this with rfl | rfl <;> rfl
        rw [ho]
        simp only [go_sem, hd, hlt, Nat.mul_one]
        (repeat (refine And.intro (by omega) ?_))
        refine loop_inv (fun k : Nat => stL 70 [(0, .one (.ptr 1000000 0)), (1, litI .i64 i), (2, litI .i64 j), (18, .agg [.vec 1000001 1 0 M.R, .vec 1000002 1 0 M.n]), (19, litI .i64 t), (22, .one (.vec (1000001 + t) 1 0 (cntM M t))), (23, litI .i64 (cntM M t)), (24, litI .i64 k)]
          (mkE 1000000 (M.col f (offM M t + k)) [])) (fun k => k ≤ cntM M t) (fun k => cntM M t - k) 0 ?_ (Nat.zero_le _) ?_
        · rw [Nat.add_zero]
          have hct : ∀ D, (mkD 1000000 (M.col f (offM M t)) D).contains (1000001 + t) = true := fun D => by rw [show 1000001 + t = 1000000 + (1 + t) by omega]; exact mk_ct4 (by omega)
          (refine gstep_list rfl ?_ ?_ ?_ ?_ <;> (try simp only [go_sem, tail_one, hrf, hd, hct]) <;> (try simp only [true_or, or_true, or_false, beq_self_eq_true, and_self, true_and, and_true]))
        · intro k hk
          simp only [go_sem]
          refine CondR_if (fun hlk => ?_) (fun hgk => ?_)
          · have hlk' : k < cntM M t := by omega
            have hq := offcnt hlt' hlk'
            obtain ⟨q, hqe⟩ : ∃ q, q = offM M t + k := ⟨_, rfl⟩
            rw [← hqe] at hq
            have hb : ∀ t', 1000100 + t' = 1000000 + 100 + t' := fun t' => rfl
            have kh := fun e => hd_look (M := M.col f (offM M t + k)) (t := t) (e := e) hlt'
            have a3 : (rowsC (1000100 + offM M t) 2 M.n (cntM M t)).drop k = .vec (1000100 + q) 2 0 M.n :: (rowsC (1000100 + offM M t) 2 M.n (cntM M t)).drop (k + 1) := by
              rw [rowsC_at hlk', Nat.add_assoc, ← hqe]
            have e1 : offM (M.col f (offM M t + k)) t = offM M t := rfl
            have e2 : cntM (M.col f (offM M t + k)) t = cntM M t := rfl
            rw [e1, e2] at kh
            rw [← hqe] at kh ⊢
            have hgq : (M.col f q).g q = M.g q := if_neg (Nat.lt_irrefl _)
            have kf : ∀ e, lookH (mkE 1000000 (M.col f q) e) (1000100 + q) = some (cellsL cJ (fnG M.n (M.g q))) := fun e => by
              have := mkKf (b := 1000000) (M := M.col f q) (e := e) (i := q) (by show q < M.R + M.n + M.n; omega)
              rw [hgq] at this; exact this
            have c1 := cG_at (f := cJ) (sz := 2) (g := M.g q) cJ_len hi
            have c2 := cG_at (f := cJ) (sz := 2) (g := M.g q) cJ_len hj
            have hrl := rowsC_len (b := 1000100 + offM M t) (sz := 2) (len := M.n) (n := cntM M t)
            have sd1 := cJ_sd (n := M.n) (g := M.g q) hi (q := M.g q j)
            have sd2 := cJ_sd (n := M.n) (g := fun v => if v = i then M.g q j else M.g q v) hj (q := M.g q i)
            have cl := fun g => cJ_clen (n := M.n) (g := g)
            simp only [go_sem, kh, a3, hlk, hn, hR]
            (repeat (refine And.intro (by omega) ?_))
            refine regA_by 0 rfl ?_
            simp only [go_sem, kf, c1, c2, hiI, hjI, cl, sd1]
            (repeat (refine And.intro (by omega) ?_))
            refine ⟨k + 1, hlk', (by show cntM M t - (k + 1) < cntM M t - k; omega), ?_⟩
            have hct : ∀ m D, (mkD 1000000 (M.col f m) D).contains (1000001 + t) = true := fun m D => by rw [show 1000001 + t = 1000000 + (1 + t) by omega]; exact mk_ct4 (by omega)
            have hat : ∀ {H : Heap}, AtM H 1000000 (M.col f q) → AtM (upd H (1000100 + q) (some (cellsL cJ (fnG M.n fun v => if v = j then M.g q i else if v = i then M.g q j else M.g q v)))) 1000000 (M.col f (q + 1)) := fun h =>
              col_row (b := 1000000) h fun c hc => by
                rw [hf]
                show _ = M.g q (swN i j c)
                unfold swN
                by_cases e1 : c = i
                · rw [if_neg (by omega), if_pos e1, if_pos e1]
                · rw [if_neg e1, if_neg e1]
                  by_cases e2 : c = j
                  · rw [if_pos e2, if_pos e2]
                  · rw [if_neg e2, if_neg e2]
            have eq1 : offM M t + (k + 1) = q + 1 := by omega
            (refine gstep_list rfl ?_ ?_ ?_ ?_ <;> (try simp only [go_sem, tail_one, hrf, hct, sd2, eq1, wrap_i64 (n := (k : Int) + 1) (by omega) (by omega)]) <;> (try simp only [true_or, or_true, or_false, beq_self_eq_true, and_self, true_and, and_true]))
            rw [upd2]; exact hat (by rw [AtM_self]; trivial)
          · obtain rfl : k = cntM M t := by omega
            simp only [go_sem]
            refine ⟨t + 1, hlt', (by show 2 - (t + 1) < 2 - t; omega), ?_⟩
            have eo : (if t + 1 = 0 then 0 else if t + 1 = 1 then M.R else M.R + M.n) = offM M t + cntM M t := by
              rw [off_next hlt']
              have : t = 0 ∨ t = 1 := by omega
              rcases this with rfl | rfl <;> rfl
            rw [off_next hlt'] at eo
            (refine gstep_list rfl ?_ ?_ ?_ ?_ <;> (try simp only [go_sem, tail_one, hrf, wrap_i64 (n := (t : Int) + 1) (by omega) (by omega)]) <;> (try simp only [true_or, or_true, or_false, beq_self_eq_true, and_self, true_and, and_true]))
            rw [off_next hlt', AtM_self]; trivial
      · obtain rfl : t = 2 := by omega
        have a3 : ∀ s (i : Nat), i < M.n → (prmC (1000100 + M.R + M.n) 2 M.n s M.n).drop i = .vec (1000100 + M.R + M.n + s i) 2 0 M.n :: (prmC (1000100 + M.R + M.n) 2 M.n s M.n).drop (i + 1) := fun s i h => prmC_at h
        have p1 := a3 M.s i hi
        have p2 := a3 M.s j hj
        have pl := fun s => prmC_len (b := 1000100 + M.R + M.n) (sz := 2) (len := M.n) (n := M.n) (s := s)
        have hs : ∀ m, (M.col f m).s = M.s := fun m => rfl
        have ps := fun s k v => prm_sd (b := 1000100 + M.R + M.n) (sz := 2) (len := M.n) (n := M.n) (s := s) (i := k) (k := v)
        rw [if_neg (by decide), if_neg (by decide)]
        simp only [go_sem]
        refine regA_by 0 rfl ?_
        simp only [go_sem, hn, hR, hs, p1, p2, pl, hiI, hjI, ps _ _ _ hi, ps _ _ _ hj]
        (repeat (refine And.intro (by omega) ?_))
        have hsw : (fun c => if c = j then M.s i else if c = i then M.s j else M.s c) = fun c => M.s (swN i j c) := by
          funext c
          unfold swN
          by_cases e1 : c = i
          · rw [if_neg (by omega), if_pos e1, if_pos e1]
          · rw [if_neg e1, if_neg e1]
            by_cases e2 : c = j
            · rw [if_pos e2, if_pos e2]
            · rw [if_neg e2, if_neg e2]
        refine xret0 (.inl rfl) ?_
        simp only [go_sem]
        have hfin := (AtM.perm (b := 1000000) (M := M.col f (M.R + M.n)) (H := lookH (mkE 1000000 (M.col f (M.R + M.n)) [])) (s' := fun c => M.s (swN i j c)) (by rw [AtM_self]; trivial))
        have eM : M.swap i j = ⟨M.n, M.R, (M.col f (M.R + M.n)).g, fun c => M.s (swN i j c)⟩ := by rw [hf]; rfl
        rw [eM]
        have hall := xM_end hfin fun t ht hx => end_none (M := M.col f (M.R + M.n)) (M' := ⟨M.n, M.R, (M.col f (M.R + M.n)).g, fun c => M.s (swN i j c)⟩) rfl rfl (k := 3) (by omega) hx
        intro b hb
        refine Eq.trans ?_ (hall b hb)
        rw [upd_at]
        by_cases e : b = 1000003
        · rw [if_pos e, if_pos e, hsw]; rfl
        · rw [if_neg e, if_neg e, if_neg e]
end Go.Proofs.YtjmbhknhiakkpaaGreat
namespace Go.Proofs.YtjmbhknhiakkpaaGreat
open Go Go.Abs
set_option maxHeartbeats 32000000
def fTurn (i : Nat) (g : Nat → Int) (c : Nat) : Int := if c = i then -(g c) else g c
/-- One row, in part. -/
def MX.rw (M : MX) (q k : Nat) (fv : Nat → Int) : MX := ⟨M.n, M.R, fun p => if p = q then fun c => if c < k then fv c else M.g p c else M.g p, M.s⟩
def MX.turn (M : MX) (i : Nat) : MX := ⟨M.n, M.R, fun p => if p < M.R + M.n then fTurn i (M.g p) else if p = M.R + M.n + M.s i then fun c => -(M.g p c) else M.g p, M.s⟩
theorem rw_zero {M : MX} {q : Nat} {fv : Nat → Int} : M.rw q 0 fv = M := by
  unfold MX.rw
  have : (fun p => if p = q then (fun c => if c < 0 then fv c else M.g p c) else M.g p) = M.g := by
    funext p
    split
    · funext c; rw [if_neg (by omega)]
    · rfl
  rw [this]
theorem rw_row {M : MX} {q k : Nat} {fv : Nat → Int} {H : Heap} {b : Nat} (h : AtM H b (M.rw q k fv)) : AtM (upd H (b + 100 + q) (some (cellsL cJ (fnG M.n fun v => if v = k then fv k else if v < k then fv v else M.g q v)))) b (M.rw q (k + 1) fv) := by
  refine AtM.row (M := M.rw q k fv) h _ fun i hi j hj => ?_
  show (if i = q then fun c => if c < k + 1 then fv c else M.g i c else M.g i) j = if i = q then _ else (if i = q then fun c => if c < k then fv c else M.g i c else M.g i) j
  by_cases e : i = q
  · rw [if_pos e, if_pos e]
    show (if j < k + 1 then fv j else M.g i j) = if j = k then fv k else if j < k then fv j else M.g q j
    by_cases e2 : j = k
    · rw [if_pos (by omega), if_pos e2, e2]
    · rw [if_neg e2]
      by_cases e3 : j < k
      · rw [if_pos (by omega), if_pos e3]
      · rw [if_neg (by omega), if_neg e3, e]
  · rw [if_neg e, if_neg e, if_neg e]
set_option maxRecDepth 100000 in
theorem h_turn (M : MX) (i : Nat) {K : Nat} (hK : K ≤ 10000000000) (hM : M.Ok) (hdim : M.N < 90000) (hi : i < M.n) (hB : ∀ q c, q < M.R + M.n → c < M.n → lN (M.g q c) ≤ K) (hBv : ∀ i c, i < M.n → c < M.n → lN (M.g (M.R + M.n + M.s i) c) ≤ K) :
    MCall Tryz.prog 86 [.one (.ptr PIN 0), litI .i64 i] (xM M) (.tup []) (xM (M.turn i)) := by
  refine mcall_of_wpX mixed Tryz.call86 Tryz.func86 rfl Tryz.ntmps86 Tryz.results86 (by simp) (by decide) ?_ ?_ ?_ ?_ ?_
  · exact mk_low _
  · exact mk_dom rfl rfl
  · exact mk_cl _ hM
  · trivial
  · have hdim' : M.R + M.n + M.n < 90000 := hdim
    have hiI : ((i : Int) < (M.n : Int)) = True := eq_true (by omega)
    obtain ⟨f, hf⟩ : ∃ f : (Nat → Int) → Nat → Int, f = fTurn i := ⟨_, rfl⟩
    have hc0 : M.col f 0 = M := by unfold MX.col; simp
    have xw : xM M = lookH (mkE 1000000 (M.col f 0) []) := by rw [hc0]; rfl
    have hn : ∀ m, (M.col f m).n = M.n := fun m => rfl
    have hR : ∀ m, (M.col f m).R = M.R := fun m => rfl
    have hok : ∀ m, (M.col f m).Ok := fun m => hM
    have hrf : ∀ m D e, refsH (mkD 1000000 (M.col f m) D) (mkE 1000000 (M.col f m) e) = refsH (mkD 1000000 (M.col f m) D) e := fun m D e => refsH_mk (hok m)
    rw [xw]
    refine regA_by 0 rfl ?_
    simp only [go_sem, PIN, mkLo, hn, hR]
    refine loop_inv (fun t : Nat => stL 63 [(0, .one (.ptr 1000000 0)), (1, litI .i64 i), (18, .agg [.vec 1000001 1 0 M.R, .vec 1000002 1 0 M.n]), (19, litI .i64 t)]
      (mkE 1000000 (M.col f (if t = 0 then 0 else if t = 1 then M.R else M.R + M.n)) [])) (fun t => t ≤ 2) (fun t => 2 - t) 0 ?_ (by decide) ?_
    · rw [if_pos rfl]
      (refine gstep_list rfl ?_ ?_ ?_ ?_ <;> (try simp only [go_sem, tail_one, hrf]) <;> (try simp only [true_or, or_true, or_false, beq_self_eq_true, and_self, true_and, and_true]))
    · intro t ht
      simp only [go_sem]
      refine CondR_if (fun hlt => ?_) (fun hge => ?_)
      · have hlt' : t < 2 := by omega
        have hd := hd_drop (M := M) hlt'
        have ho : (if t = 0 then 0 else if t = 1 then M.R else M.R + M.n) = offM M t := by
          have : t = 0 ∨ t = 1 := by omega
          rcases this with rfl | rfl <;> rfl
        rw [ho]
        simp only [go_sem, hd, hlt, Nat.mul_one]
        (repeat (refine And.intro (by omega) ?_))
        refine loop_inv (fun k : Nat => stL 63 [(0, .one (.ptr 1000000 0)), (1, litI .i64 i), (18, .agg [.vec 1000001 1 0 M.R, .vec 1000002 1 0 M.n]), (19, litI .i64 t), (22, .one (.vec (1000001 + t) 1 0 (cntM M t))), (23, litI .i64 (cntM M t)), (24, litI .i64 k)]
          (mkE 1000000 (M.col f (offM M t + k)) [])) (fun k => k ≤ cntM M t) (fun k => cntM M t - k) 0 ?_ (Nat.zero_le _) ?_
        · rw [Nat.add_zero]
          have hct : ∀ D, (mkD 1000000 (M.col f (offM M t)) D).contains (1000001 + t) = true := fun D => by rw [show 1000001 + t = 1000000 + (1 + t) by omega]; exact mk_ct4 (by omega)
          (refine gstep_list rfl ?_ ?_ ?_ ?_ <;> (try simp only [go_sem, tail_one, hrf, hd, hct]) <;> (try simp only [true_or, or_true, or_false, beq_self_eq_true, and_self, true_and, and_true]))
        · intro k hk
          simp only [go_sem]
          refine CondR_if (fun hlk => ?_) (fun hgk => ?_)
          · have hlk' : k < cntM M t := by omega
            have hq := offcnt hlt' hlk'
            obtain ⟨q, hqe⟩ : ∃ q, q = offM M t + k := ⟨_, rfl⟩
            rw [← hqe] at hq
            have kh := fun e => hd_look (M := M.col f (offM M t + k)) (t := t) (e := e) hlt'
            have a3 : (rowsC (1000100 + offM M t) 2 M.n (cntM M t)).drop k = .vec (1000100 + q) 2 0 M.n :: (rowsC (1000100 + offM M t) 2 M.n (cntM M t)).drop (k + 1) := by
              rw [rowsC_at hlk', Nat.add_assoc, ← hqe]
            have e1 : offM (M.col f (offM M t + k)) t = offM M t := rfl
            have e2 : cntM (M.col f (offM M t + k)) t = cntM M t := rfl
            rw [e1, e2] at kh
            rw [← hqe] at kh ⊢
            have hgq : (M.col f q).g q = M.g q := if_neg (Nat.lt_irrefl _)
            have kf : ∀ e, lookH (mkE 1000000 (M.col f q) e) (1000100 + q) = some (cellsL cJ (fnG M.n (M.g q))) := fun e => by
              have := mkKf (b := 1000000) (M := M.col f q) (e := e) (i := q) (by show q < M.R + M.n + M.n; omega)
              rw [hgq] at this; exact this
            have c1 := cG_at (f := cJ) (sz := 2) (g := M.g q) cJ_len hi
            have hrl := rowsC_len (b := 1000100 + offM M t) (sz := 2) (len := M.n) (n := cntM M t)
            have sd1 := cJ_sd (n := M.n) (g := M.g q) hi (q := -(M.g q i))
            have cl := fun g => cJ_clen (n := M.n) (g := g)
            have hbq := hB q i hq hi
            have o1 := w_Neg_e (M.g q i) (by omega)
            simp only [go_sem, kh, a3, hlk, hn, hR, kf, c1, hiI, cl, sd1]
            (repeat (refine And.intro (by omega) ?_))
            ((repeat (refine regA_by 0 rfl ?_; simp only [go_sem, kf, c1, hiI, cl, sd1, mkLo])); refine call_pure (o1) rfl ?_; simp only [go_sem, kf, c1, hiI, cl, sd1, mkLo]; (repeat (refine regA_by 0 rfl ?_; simp only [go_sem, kf, c1, hiI, cl, sd1, mkLo])))
            (repeat (refine And.intro (by omega) ?_))
            refine ⟨k + 1, hlk', (by show cntM M t - (k + 1) < cntM M t - k; omega), ?_⟩
            have hct : ∀ m D, (mkD 1000000 (M.col f m) D).contains (1000001 + t) = true := fun m D => by rw [show 1000001 + t = 1000000 + (1 + t) by omega]; exact mk_ct4 (by omega)
            have hat : ∀ {H : Heap}, AtM H 1000000 (M.col f q) → AtM (upd H (1000100 + q) (some (cellsL cJ (fnG M.n fun v => if v = i then -(M.g q i) else M.g q v)))) 1000000 (M.col f (q + 1)) := fun h =>
              col_row (b := 1000000) h fun c hc => by
                rw [hf]
                show _ = if c = i then -(M.g q c) else M.g q c
                by_cases e1 : c = i
                · rw [if_pos e1, if_pos e1, e1]
                · rw [if_neg e1, if_neg e1]
            have eq1 : offM M t + (k + 1) = q + 1 := by omega
            (refine gstep_list rfl ?_ ?_ ?_ ?_ <;> (try simp only [go_sem, tail_one, hrf, hct, sd1, eq1, wrap_i64 (n := (k : Int) + 1) (by omega) (by omega)]) <;> (try simp only [true_or, or_true, or_false, beq_self_eq_true, and_self, true_and, and_true]))
            exact hat (by rw [AtM_self]; trivial)
          · obtain rfl : k = cntM M t := by omega
            simp only [go_sem]
            refine ⟨t + 1, hlt', (by show 2 - (t + 1) < 2 - t; omega), ?_⟩
            (refine gstep_list rfl ?_ ?_ ?_ ?_ <;> (try simp only [go_sem, tail_one, hrf, wrap_i64 (n := (t : Int) + 1) (by omega) (by omega)]) <;> (try simp only [true_or, or_true, or_false, beq_self_eq_true, and_self, true_and, and_true]))
            rw [off_next hlt', AtM_self]; trivial
      · obtain rfl : t = 2 := by omega
        rw [if_neg (by decide), if_neg (by decide)]
        obtain ⟨q, hqe⟩ : ∃ q, q = M.R + M.n + M.s i := ⟨_, rfl⟩
        have hsi := hM i hi
        obtain ⟨M1, hM1⟩ : ∃ M1, M1 = M.col f (M.R + M.n) := ⟨_, rfl⟩
        have n1 : M1.n = M.n := by rw [hM1]; rfl
        have R1 : M1.R = M.R := by rw [hM1]; rfl
        have s1 : M1.s = M.s := by rw [hM1]; rfl
        have g1 : M1.g q = M.g q := by rw [hM1]; exact if_neg (by omega)
        obtain ⟨fv, hfv⟩ : ∃ fv : Nat → Int, fv = fun c => -(M.g q c) := ⟨_, rfl⟩
        have n2 : ∀ k, (M1.rw q k fv).n = M.n := fun k => n1
        have R2 : ∀ k, (M1.rw q k fv).R = M.R := fun k => R1
        have s2 : ∀ k, (M1.rw q k fv).s = M.s := fun k => s1
        have ok2 : ∀ k, (M1.rw q k fv).Ok := fun k => by
          intro c hc
          rw [s2, n2]; exact hM c (by rw [n2] at hc; exact hc)
        have hrf2 : ∀ k D e, refsH (mkD 1000000 (M1.rw q k fv) D) (mkE 1000000 (M1.rw q k fv) e) = refsH (mkD 1000000 (M1.rw q k fv) D) e := fun k D e => refsH_mk (ok2 k)
        have a3 : (prmC (1000100 + M.R + M.n) 2 M.n M.s M.n).drop i = .vec (1000100 + q) 2 0 M.n :: (prmC (1000100 + M.R + M.n) 2 M.n M.s M.n).drop (i + 1) := by
          rw [prmC_at hi, show 1000100 + M.R + M.n + M.s i = 1000100 + q by omega]
        have pl := prmC_len (b := 1000100 + M.R + M.n) (sz := 2) (len := M.n) (n := M.n) (s := M.s)
        rw [← hM1, ← rw_zero (M := M1) (q := q) (fv := fv)]
        simp only [go_sem, n2, R2, s2, a3, pl, hiI]
        (repeat (refine And.intro (by omega) ?_))
        refine loop_inv (fun k : Nat => stL 63 [(0, .one (.ptr 1000000 0)), (1, litI .i64 i), (44, .one (.vec (1000100 + q) 2 0 M.n)), (45, litI .i64 M.n), (46, litI .i64 k)]
          (mkE 1000000 (M1.rw q k fv) [])) (fun k => k ≤ M.n) (fun k => M.n - k) 0 ?_ (Nat.zero_le _) ?_
        · have hct : ∀ D, (mkD 1000000 (M1.rw q 0 fv) D).contains (1000100 + q) = true := fun D => mk_ctf (by unfold MX.N; rw [n2, R2]; omega)
          (refine gstep_list rfl ?_ ?_ ?_ ?_ <;> (try simp only [go_sem, tail_one, hrf2, hct]) <;> (try simp only [true_or, or_true, or_false, beq_self_eq_true, and_self, true_and, and_true]))
        · intro k hk
          simp only [go_sem]
          refine CondR_if (fun hlk => ?_) (fun hgk => ?_)
          · have hlk' : k < M.n := by omega
            have hg2 : (M1.rw q k fv).g q = fun c => if c < k then fv c else M.g q c := by
              show (if q = q then fun c => if c < k then fv c else M1.g q c else M1.g q) = _
              rw [if_pos rfl, g1]
            have kf : ∀ e, lookH (mkE 1000000 (M1.rw q k fv) e) (1000100 + q) = some (cellsL cJ (fnG M.n fun c => if c < k then fv c else M.g q c)) := fun e => by
              have := mkKf (b := 1000000) (M := M1.rw q k fv) (e := e) (i := q) (by unfold MX.N; rw [n2, R2]; omega)
              rw [hg2, n2] at this; exact this
            have c1 := cG_at (f := cJ) (sz := 2) (g := fun c => if c < k then fv c else M.g q c) cJ_len hlk'
            rw [if_neg (Nat.lt_irrefl _)] at c1
            have sd1 := cJ_sd (n := M.n) (g := fun c => if c < k then fv c else M.g q c) hlk' (q := -(M.g q k))
            have cl := fun g => cJ_clen (n := M.n) (g := g)
            have hbq : lN (M.g q k) ≤ K := by rw [hqe]; exact hBv i k hi hlk'
            have o1 := w_Neg_e (M.g q k) (by omega)
            have ct4 : ∀ k D, (mkD 1000000 (M1.rw q k fv) D).contains (1000100 + q) = true := fun k D => mk_ctf (by unfold MX.N; rw [n2, R2]; omega)
            simp only [go_sem, n2, R2, s2, kf, c1, hlk, cl, mkLo]
            (repeat (refine And.intro (by omega) ?_))
            refine regA_by 0 rfl ?_
            simp only [go_sem, n2, R2, s2, a3, pl, hiI, kf, hlk, cl, mkLo, famNe, famNe']
            (repeat (refine And.intro (by omega) ?_))
            ((repeat (refine regA_by 0 rfl ?_; simp only [go_sem, n2, R2, s2, a3, pl, hiI, kf, hlk, cl, mkLo, famNe, famNe'])); refine call_pure (o1) rfl ?_; simp only [go_sem, n2, R2, s2, a3, pl, hiI, kf, hlk, cl, mkLo, famNe, famNe']; (repeat (refine regA_by 0 rfl ?_; simp only [go_sem, n2, R2, s2, a3, pl, hiI, kf, hlk, cl, mkLo, famNe, famNe'])))
            (repeat (refine And.intro (by omega) ?_))
            refine ⟨k + 1, hlk', (by show M.n - (k + 1) < M.n - k; omega), ?_⟩
            have hat : ∀ {H : Heap}, AtM H 1000000 (M1.rw q k fv) → AtM (upd H (1000100 + q) (some (cellsL cJ (fnG M.n fun v => if v = k then -(M.g q k) else if v < k then fv v else M.g q v)))) 1000000 (M1.rw q (k + 1) fv) := fun h => by
              have := rw_row (b := 1000000) h
              rw [g1, n1, show fv k = -(M.g q k) by rw [hfv]] at this
              exact this
            (refine gstep_list rfl ?_ ?_ ?_ ?_ <;> (try simp only [go_sem, tail_one, hrf2, ct4, sd1, kf, mkLo, famNe, famNe', AtM_upd, wrap_i64 (n := (k : Int) + 1) (by omega) (by omega)]) <;> (try simp only [true_or, or_true, or_false, beq_self_eq_true, and_self, true_and, and_true]))
            exact hat (by rw [AtM_upd (by omega), AtM_upd (by omega), AtM_self]; trivial)
          · obtain rfl : k = M.n := by omega
            simp only [go_sem]
            refine xret0 (.inl rfl) ?_
            have hfin : AtM (lookH (mkE 1000000 (M1.rw q M.n fv) [])) 1000000 ⟨M.n, M.R, (M.turn i).g, M.s⟩ := by
              have := AtM.same (b := 1000000) (M := M1.rw q M.n fv) (g' := (M.turn i).g) (H := lookH (mkE 1000000 (M1.rw q M.n fv) [])) (by rw [AtM_self]; trivial) fun p hp c hc => by
                rw [n2] at hc
                show (if p < M.R + M.n then fTurn i (M.g p) else if p = M.R + M.n + M.s i then fun c => -(M.g p c) else M.g p) c = (if p = q then fun c => if c < M.n then fv c else M1.g p c else M1.g p) c
                have hg1 : M1.g p = if p < M.R + M.n then f (M.g p) else M.g p := by rw [hM1]; rfl
                by_cases e1 : p < M.R + M.n
                · rw [if_pos e1, if_neg (by omega), hg1, if_pos e1, hf]
                · rw [if_neg e1, ← hqe]
                  by_cases e2 : p = q
                  · rw [if_pos e2, if_pos e2]
                    show -(M.g p c) = if c < M.n then fv c else M1.g p c
                    rw [if_pos hc, hfv, e2]
                  · rw [if_neg e2, if_neg e2, hg1, if_neg e1]
              rw [n2, R2, s2] at this; exact this
            have hall := xM_end hfin fun t ht hx => (mk_dom (M := M1.rw q M.n fv) (M' := ⟨M.n, M.R, (M.turn i).g, M.s⟩) n1.symm R1.symm t).1 (by rw [xM_def]; exact hx)
            exact hall
end Go.Proofs.YtjmbhknhiakkpaaGreat
namespace Go.Proofs.YtjmbhknhiakkpaaGreat
open Go Go.Abs
set_option maxHeartbeats 32000000
def fLess (i fr : Nat) (q : Int) (g : Nat → Int) (c : Nat) : Int := if c = fr then g c - q * g i else g c
def MX.less (M : MX) (i fr : Nat) (q : Int) : MX := ⟨M.n, M.R, fun p => if p < M.R + M.n then fLess i fr q (M.g p) else if p = M.R + M.n + M.s i then fun c => M.g p c + q * M.g (M.R + M.n + M.s fr) c else M.g p, M.s⟩
set_option maxRecDepth 100000 in
theorem h_less (M : MX) (i fr : Nat) (z : Int) {K : Nat} (hK : K ≤ 10000000000) (hM : M.Ok) (hdim : M.N < 90000) (hi : i < M.n) (hfr : fr < M.n) (hne : M.s i ≠ M.s fr) (hz : lN z ≤ K) (hB : ∀ q c, q < M.R + M.n → c < M.n → lN (M.g q c) ≤ K) (hBv : ∀ i c, i < M.n → c < M.n → lN (M.g (M.R + M.n + M.s i) c) ≤ K) :
    MCall Tryz.prog 85 [.one (.ptr PIN 0), litI .i64 i, litI .i64 fr, .agg ((cJ z).map .t)] (xM M) (.tup []) (xM (M.less i fr z)) := by
  refine mcall_of_wpX mixed Tryz.call85 Tryz.func85 rfl Tryz.ntmps85 Tryz.results85 (by simp) (by decide) ?_ ?_ ?_ ?_ ?_
  · exact mk_low _
  · exact mk_dom rfl rfl
  · exact mk_cl _ hM
  · trivial
  · have hdim' : M.R + M.n + M.n < 90000 := hdim
    have hiI : ((i : Int) < (M.n : Int)) = True := eq_true (by omega)
    have hfI : ((fr : Int) < (M.n : Int)) = True := eq_true (by omega)
    have sg := w_Sign_e z (by omega)
    obtain ⟨f, hf⟩ : ∃ f : (Nat → Int) → Nat → Int, f = fLess i fr z := ⟨_, rfl⟩
    have hc0 : M.col f 0 = M := by unfold MX.col; simp
    have xw : xM M = lookH (mkE 1000000 (M.col f 0) []) := by rw [hc0]; rfl
    have hn : ∀ m, (M.col f m).n = M.n := fun m => rfl
    have hR : ∀ m, (M.col f m).R = M.R := fun m => rfl
    have hok : ∀ m, (M.col f m).Ok := fun m => hM
    have hrf : ∀ m D e, refsH (mkD 1000000 (M.col f m) D) (mkE 1000000 (M.col f m) e) = refsH (mkD 1000000 (M.col f m) D) e := fun m D e => refsH_mk (hok m)
    rw [xw]
    simp only [go_sem, PIN, mkLo, hn, hR]
    ((repeat (refine regA_by 0 rfl ?_; simp only [go_sem, PIN, mkLo, hn, hR])); refine call_pure (sg) rfl ?_; simp only [go_sem, PIN, mkLo, hn, hR]; (repeat (refine regA_by 0 rfl ?_; simp only [go_sem, PIN, mkLo, hn, hR])))
    by_cases hz0 : z = 0
    · have hz1 : (z.sign = 0) = True := eq_true (Int.sign_eq_zero_iff_zero.2 hz0)
      simp only [go_sem, hz1]
      refine xret0 (.inr rfl) ?_
      simp only [go_sem]
      have hfin : AtM (lookH (mkE 1000000 M [])) 1000000 ⟨M.n, M.R, (M.less i fr z).g, M.s⟩ := AtM.same (b := 1000000) (by rw [AtM_self]; trivial) fun p hp c hc => by
        show (if p < M.R + M.n then fLess i fr z (M.g p) else if p = M.R + M.n + M.s i then fun c => M.g p c + z * M.g (M.R + M.n + M.s fr) c else M.g p) c = M.g p c
        rw [hz0]
        split
        · unfold fLess; split <;> omega
        · split
          · show M.g p c + 0 * _ = _; omega
          · rfl
      have hall := xM_end hfin fun t ht hx => (mk_dom (M := M) (M' := ⟨M.n, M.R, (M.less i fr z).g, M.s⟩) rfl rfl t).1 (by rw [xM_def]; exact hx)
      intro b hb
      rw [if_neg (by have : PIN = 1000000 := rfl; omega), hc0]
      exact hall b hb
    have hz1 : (z.sign = 0) = False := eq_false (fun h => hz0 (Int.sign_eq_zero_iff_zero.1 h))
    simp only [go_sem, hz1]
    refine regA_by 0 rfl ?_
    simp only [go_sem, PIN, mkLo, hn, hR]
    refine loop_inv (fun t : Nat => stL 88 [(0, .one (.ptr 1000000 0)), (1, litI .i64 i), (2, litI .i64 fr), (7, .one (.ptr 7 0)), (25, .agg [.vec 1000001 1 0 M.R, .vec 1000002 1 0 M.n]), (26, litI .i64 t)]
      (mkE 1000000 (M.col f (if t = 0 then 0 else if t = 1 then M.R else M.R + M.n)) [(7, (cJ z).map .t)])) (fun t => t ≤ 2) (fun t => 2 - t) 0 ?_ (by decide) ?_
    · rw [if_pos rfl]
      (refine gstep_list rfl ?_ ?_ ?_ ?_ <;> (try simp only [go_sem, tail_one, mkLo, mk_ctl, AtM_upd, hrf]) <;> (try simp only [true_or, or_true, or_false, beq_self_eq_true, and_self, true_and, and_true]))
    · intro t ht
      simp only [go_sem]
      refine CondR_if (fun hlt => ?_) (fun hge => ?_)
      · have hlt' : t < 2 := by omega
        have hd := hd_drop (M := M) hlt'
        have ho : (if t = 0 then 0 else if t = 1 then M.R else M.R + M.n) = offM M t := by
          have : t = 0 ∨ t = 1 := by omega
          rcases this with rfl | rfl <;> rfl
        rw [ho]
        simp only [go_sem, hd, hlt, Nat.mul_one]
        (repeat (refine And.intro (by omega) ?_))
        refine loop_inv (fun k : Nat => stL 88 [(0, .one (.ptr 1000000 0)), (1, litI .i64 i), (2, litI .i64 fr), (7, .one (.ptr 7 0)), (25, .agg [.vec 1000001 1 0 M.R, .vec 1000002 1 0 M.n]), (26, litI .i64 t), (29, .one (.vec (1000001 + t) 1 0 (cntM M t))), (30, litI .i64 (cntM M t)), (31, litI .i64 k)]
          (mkE 1000000 (M.col f (offM M t + k)) [(7, (cJ z).map .t)])) (fun k => k ≤ cntM M t) (fun k => cntM M t - k) 0 ?_ (Nat.zero_le _) ?_
        · rw [Nat.add_zero]
          have hct : ∀ D, (mkD 1000000 (M.col f (offM M t)) D).contains (1000001 + t) = true := fun D => by rw [show 1000001 + t = 1000000 + (1 + t) by omega]; exact mk_ct4 (by omega)
          (refine gstep_list rfl ?_ ?_ ?_ ?_ <;> (try simp only [go_sem, tail_one, mkLo, mk_ctl, AtM_upd, hrf, hd, hct]) <;> (try simp only [true_or, or_true, or_false, beq_self_eq_true, and_self, true_and, and_true]))
        · intro k hk
          simp only [go_sem]
          refine CondR_if (fun hlk => ?_) (fun hgk => ?_)
          · have hlk' : k < cntM M t := by omega
            have hq := offcnt hlt' hlk'
            obtain ⟨q, hqe⟩ : ∃ q, q = offM M t + k := ⟨_, rfl⟩
            rw [← hqe] at hq
            have kh := fun e => hd_look (M := M.col f (offM M t + k)) (t := t) (e := e) hlt'
            have a3 : (rowsC (1000100 + offM M t) 2 M.n (cntM M t)).drop k = .vec (1000100 + q) 2 0 M.n :: (rowsC (1000100 + offM M t) 2 M.n (cntM M t)).drop (k + 1) := by
              rw [rowsC_at hlk', Nat.add_assoc, ← hqe]
            have e1 : offM (M.col f (offM M t + k)) t = offM M t := rfl
            have e2 : cntM (M.col f (offM M t + k)) t = cntM M t := rfl
            rw [e1, e2] at kh
            rw [← hqe] at kh ⊢
            have hgq : (M.col f q).g q = M.g q := if_neg (Nat.lt_irrefl _)
            have kf : ∀ e, lookH (mkE 1000000 (M.col f q) e) (1000100 + q) = some (cellsL cJ (fnG M.n (M.g q))) := fun e => by
              have := mkKf (b := 1000000) (M := M.col f q) (e := e) (i := q) (by show q < M.R + M.n + M.n; omega)
              rw [hgq] at this; exact this
            have c1 := cG_at (f := cJ) (sz := 2) (g := M.g q) cJ_len hi
            have c2 := cG_at (f := cJ) (sz := 2) (g := M.g q) cJ_len hfr
            have hrl := rowsC_len (b := 1000100 + offM M t) (sz := 2) (len := M.n) (n := cntM M t)
            have sd1 := cJ_sd (n := M.n) (g := M.g q) hfr (q := M.g q fr - z * M.g q i)
            have cl := fun g => cJ_clen (n := M.n) (g := g)
            have hbq := hB q i hq hi
            have hbf := hB q fr hq hfr
            have hml := lN_mul z (M.g q i)
            have o1 := w_Mul_e z (M.g q i) (by omega) (by omega)
            have o2 := w_Sub_e (M.g q fr) (z * M.g q i) (by omega) (by omega)
            simp only [go_sem, kh, a3, hlk, hn, hR]
            (repeat (refine And.intro (by omega) ?_))
            refine regA_by 0 rfl ?_
            simp only [go_sem, kf, c1, c2, hiI, hfI, cl, sd1, mkLo]
            (repeat (refine And.intro (by omega) ?_))
            ((repeat (refine regA_by 0 rfl ?_; simp only [go_sem, kf, c1, c2, hiI, hfI, cl, sd1, mkLo])); refine call_pure (o1) rfl ?_; simp only [go_sem, kf, c1, c2, hiI, hfI, cl, sd1, mkLo]; (repeat (refine regA_by 0 rfl ?_; simp only [go_sem, kf, c1, c2, hiI, hfI, cl, sd1, mkLo])); refine call_pure (o2) rfl ?_; simp only [go_sem, kf, c1, c2, hiI, hfI, cl, sd1, mkLo]; (repeat (refine regA_by 0 rfl ?_; simp only [go_sem, kf, c1, c2, hiI, hfI, cl, sd1, mkLo])))
            (repeat (refine And.intro (by omega) ?_))
            refine ⟨k + 1, hlk', (by show cntM M t - (k + 1) < cntM M t - k; omega), ?_⟩
            have hct : ∀ m D, (mkD 1000000 (M.col f m) D).contains (1000001 + t) = true := fun m D => by rw [show 1000001 + t = 1000000 + (1 + t) by omega]; exact mk_ct4 (by omega)
            have hat : ∀ {H : Heap}, AtM H 1000000 (M.col f q) → AtM (upd H (1000100 + q) (some (cellsL cJ (fnG M.n fun v => if v = fr then M.g q fr - z * M.g q i else M.g q v)))) 1000000 (M.col f (q + 1)) := fun h =>
              col_row (b := 1000000) h fun c hc => by
                rw [hf]
                show _ = if c = fr then M.g q c - z * M.g q i else M.g q c
                by_cases e1 : c = fr
                · rw [if_pos e1, if_pos e1, e1]
                · rw [if_neg e1, if_neg e1]
            have eq1 : offM M t + (k + 1) = q + 1 := by omega
            (refine gstep_list rfl ?_ ?_ ?_ ?_ <;> (try simp only [go_sem, tail_one, mkLo, mk_ctl, AtM_upd, hrf, hct, sd1, eq1, famNe, famNe', wrap_i64 (n := (k : Int) + 1) (by omega) (by omega)]) <;> (try simp only [true_or, or_true, or_false, beq_self_eq_true, and_self, true_and, and_true]))
            exact hat (by rw [AtM_self]; trivial)
          · obtain rfl : k = cntM M t := by omega
            simp only [go_sem]
            refine ⟨t + 1, hlt', (by show 2 - (t + 1) < 2 - t; omega), ?_⟩
            (refine gstep_list rfl ?_ ?_ ?_ ?_ <;> (try simp only [go_sem, tail_one, mkLo, mk_ctl, AtM_upd, hrf, wrap_i64 (n := (t : Int) + 1) (by omega) (by omega)]) <;> (try simp only [true_or, or_true, or_false, beq_self_eq_true, and_self, true_and, and_true]))
            rw [off_next hlt', AtM_self]; trivial
      · obtain rfl : t = 2 := by omega
        rw [if_neg (by decide), if_neg (by decide)]
        obtain ⟨q, hqe⟩ : ∃ q, q = M.R + M.n + M.s i := ⟨_, rfl⟩
        have hsi := hM i hi
        have hsf := hM fr hfr
        obtain ⟨qf, hqf⟩ : ∃ q, q = M.R + M.n + M.s fr := ⟨_, rfl⟩
        obtain ⟨M1, hM1⟩ : ∃ M1, M1 = M.col f (M.R + M.n) := ⟨_, rfl⟩
        have n1 : M1.n = M.n := by rw [hM1]; rfl
        have R1 : M1.R = M.R := by rw [hM1]; rfl
        have s1 : M1.s = M.s := by rw [hM1]; rfl
        have g1 : M1.g q = M.g q := by rw [hM1]; exact if_neg (by omega)
        have gf : M1.g qf = M.g qf := by rw [hM1]; exact if_neg (by omega)
        obtain ⟨fv, hfv⟩ : ∃ fv : Nat → Int, fv = fun c => M.g q c + z * M.g qf c := ⟨_, rfl⟩
        have n2 : ∀ k, (M1.rw q k fv).n = M.n := fun k => n1
        have R2 : ∀ k, (M1.rw q k fv).R = M.R := fun k => R1
        have s2 : ∀ k, (M1.rw q k fv).s = M.s := fun k => s1
        have ok2 : ∀ k, (M1.rw q k fv).Ok := fun k => by
          intro c hc
          rw [s2, n2]; exact hM c (by rw [n2] at hc; exact hc)
        have hrf2 : ∀ k D e, refsH (mkD 1000000 (M1.rw q k fv) D) (mkE 1000000 (M1.rw q k fv) e) = refsH (mkD 1000000 (M1.rw q k fv) D) e := fun k D e => refsH_mk (ok2 k)
        have a3 : (prmC (1000100 + M.R + M.n) 2 M.n M.s M.n).drop i = .vec (1000100 + q) 2 0 M.n :: (prmC (1000100 + M.R + M.n) 2 M.n M.s M.n).drop (i + 1) := by
          rw [prmC_at hi, show 1000100 + M.R + M.n + M.s i = 1000100 + q by omega]
        have a4 : (prmC (1000100 + M.R + M.n) 2 M.n M.s M.n).drop fr = .vec (1000100 + qf) 2 0 M.n :: (prmC (1000100 + M.R + M.n) 2 M.n M.s M.n).drop (fr + 1) := by
          rw [prmC_at hfr, show 1000100 + M.R + M.n + M.s fr = 1000100 + qf by omega]
        have pl := prmC_len (b := 1000100 + M.R + M.n) (sz := 2) (len := M.n) (n := M.n) (s := M.s)
        rw [← hM1, ← rw_zero (M := M1) (q := q) (fv := fv)]
        simp only [go_sem, n2, R2, s2, a4, pl, hfI]
        (repeat (refine And.intro (by omega) ?_))
        refine loop_inv (fun k : Nat => stL 88 [(0, .one (.ptr 1000000 0)), (1, litI .i64 i), (7, .one (.ptr 7 0)), (57, .one (.vec (1000100 + qf) 2 0 M.n)), (58, litI .i64 M.n), (59, litI .i64 k)]
          (mkE 1000000 (M1.rw q k fv) [(7, (cJ z).map .t)])) (fun k => k ≤ M.n) (fun k => M.n - k) 0 ?_ (Nat.zero_le _) ?_
        · have hct : ∀ D, (mkD 1000000 (M1.rw q 0 fv) D).contains (1000100 + qf) = true := fun D => mk_ctf (by unfold MX.N; rw [n2, R2]; omega)
          (refine gstep_list rfl ?_ ?_ ?_ ?_ <;> (try simp only [go_sem, tail_one, mkLo, mk_ctl, AtM_upd, hrf2, hct]) <;> (try simp only [true_or, or_true, or_false, beq_self_eq_true, and_self, true_and, and_true]))
        · intro k hk
          simp only [go_sem]
          refine CondR_if (fun hlk => ?_) (fun hgk => ?_)
          · have hlk' : k < M.n := by omega
            have hg2 : (M1.rw q k fv).g q = fun c => if c < k then fv c else M.g q c := by
              show (if q = q then fun c => if c < k then fv c else M1.g q c else M1.g q) = _
              rw [if_pos rfl, g1]
            have kf : ∀ e, lookH (mkE 1000000 (M1.rw q k fv) e) (1000100 + q) = some (cellsL cJ (fnG M.n fun c => if c < k then fv c else M.g q c)) := fun e => by
              have := mkKf (b := 1000000) (M := M1.rw q k fv) (e := e) (i := q) (by unfold MX.N; rw [n2, R2]; omega)
              rw [hg2, n2] at this; exact this
            have hgf : (M1.rw q k fv).g qf = M.g qf := by
              show (if qf = q then fun c => if c < k then fv c else M1.g qf c else M1.g qf) = _
              rw [if_neg (by omega), gf]
            have kff : ∀ e, lookH (mkE 1000000 (M1.rw q k fv) e) (1000100 + qf) = some (cellsL cJ (fnG M.n (M.g qf))) := fun e => by
              have := mkKf (b := 1000000) (M := M1.rw q k fv) (e := e) (i := qf) (by unfold MX.N; rw [n2, R2]; omega)
              rw [hgf, n2] at this; exact this
            have c2 := cG_at (f := cJ) (sz := 2) (g := M.g qf) cJ_len hlk'
            have c1 := cG_at (f := cJ) (sz := 2) (g := fun c => if c < k then fv c else M.g q c) cJ_len hlk'
            rw [if_neg (Nat.lt_irrefl _)] at c1
            have sd1 := cJ_sd (n := M.n) (g := fun c => if c < k then fv c else M.g q c) hlk' (q := M.g q k + z * M.g qf k)
            have cl := fun g => cJ_clen (n := M.n) (g := g)
            have hbq : lN (M.g q k) ≤ K := by rw [hqe]; exact hBv i k hi hlk'
            have hbf : lN (M.g qf k) ≤ K := by rw [hqf]; exact hBv fr k hfr hlk'
            have hml := lN_mul z (M.g qf k)
            have o1 := w_Mul_e z (M.g qf k) (by omega) (by omega)
            have o2 := w_Add_e (M.g q k) (z * M.g qf k) (by omega) (by omega)
            have ct4 : ∀ k D, (mkD 1000000 (M1.rw q k fv) D).contains (1000100 + qf) = true := fun k D => mk_ctf (by unfold MX.N; rw [n2, R2]; omega)
            simp only [go_sem, n2, R2, s2, kff, c2, hlk, cl, mkLo]
            (repeat (refine And.intro (by omega) ?_))
            refine regA_by 0 rfl ?_
            simp only [go_sem, n2, R2, s2, a3, pl, hiI, kf, c1, hlk, cl, mkLo, famNe, famNe']
            (repeat (refine And.intro (by omega) ?_))
            ((repeat (refine regA_by 0 rfl ?_; simp only [go_sem, n2, R2, s2, a3, pl, hiI, kf, c1, hlk, cl, mkLo, famNe, famNe'])); refine call_pure (o1) rfl ?_; simp only [go_sem, n2, R2, s2, a3, pl, hiI, kf, c1, hlk, cl, mkLo, famNe, famNe']; (repeat (refine regA_by 0 rfl ?_; simp only [go_sem, n2, R2, s2, a3, pl, hiI, kf, c1, hlk, cl, mkLo, famNe, famNe'])); refine call_pure (o2) rfl ?_; simp only [go_sem, n2, R2, s2, a3, pl, hiI, kf, c1, hlk, cl, mkLo, famNe, famNe']; (repeat (refine regA_by 0 rfl ?_; simp only [go_sem, n2, R2, s2, a3, pl, hiI, kf, c1, hlk, cl, mkLo, famNe, famNe'])))
            (repeat (refine And.intro (by omega) ?_))
            refine ⟨k + 1, hlk', (by show M.n - (k + 1) < M.n - k; omega), ?_⟩
            have hat : ∀ {H : Heap}, AtM H 1000000 (M1.rw q k fv) → AtM (upd H (1000100 + q) (some (cellsL cJ (fnG M.n fun v => if v = k then M.g q k + z * M.g qf k else if v < k then fv v else M.g q v)))) 1000000 (M1.rw q (k + 1) fv) := fun h => by
              have := rw_row (b := 1000000) h
              rw [g1, n1, show fv k = M.g q k + z * M.g qf k by rw [hfv]] at this
              exact this
            (refine gstep_list rfl ?_ ?_ ?_ ?_ <;> (try simp only [go_sem, tail_one, mkLo, mk_ctl, AtM_upd, hrf2, ct4, sd1, kf, famNe, famNe', wrap_i64 (n := (k : Int) + 1) (by omega) (by omega)]) <;> (try simp only [true_or, or_true, or_false, beq_self_eq_true, and_self, true_and, and_true]))
            exact hat (by rw [AtM_upd (by omega), AtM_upd (by omega), AtM_self]; trivial)
          · obtain rfl : k = M.n := by omega
            simp only [go_sem]
            refine xret0 (.inl rfl) ?_
            have hfin : AtM (lookH (mkE 1000000 (M1.rw q M.n fv) [])) 1000000 ⟨M.n, M.R, (M.less i fr z).g, M.s⟩ := by
              have := AtM.same (b := 1000000) (M := M1.rw q M.n fv) (g' := (M.less i fr z).g) (H := lookH (mkE 1000000 (M1.rw q M.n fv) [])) (by rw [AtM_self]; trivial) fun p hp c hc => by
                rw [n2] at hc
                show (if p < M.R + M.n then fLess i fr z (M.g p) else if p = M.R + M.n + M.s i then fun c => M.g p c + z * M.g (M.R + M.n + M.s fr) c else M.g p) c = (if p = q then fun c => if c < M.n then fv c else M1.g p c else M1.g p) c
                have hg1 : M1.g p = if p < M.R + M.n then f (M.g p) else M.g p := by rw [hM1]; rfl
                by_cases e1 : p < M.R + M.n
                · rw [if_pos e1, if_neg (by omega), hg1, if_pos e1, hf]
                · rw [if_neg e1, ← hqe]
                  by_cases e2 : p = q
                  · rw [if_pos e2, if_pos e2]
                    show M.g p c + z * M.g (M.R + M.n + M.s fr) c = if c < M.n then fv c else M1.g p c
                    rw [if_pos hc, hfv, e2, ← hqf]
                  · rw [if_neg e2, if_neg e2, hg1, if_neg e1]
              rw [n2, R2, s2] at this; exact this
            have hall := xM_end hfin fun t ht hx => (mk_dom (M := M1.rw q M.n fv) (M' := ⟨M.n, M.R, (M.less i fr z).g, M.s⟩) n1.symm R1.symm t).1 (by rw [xM_def]; exact hx)
            intro b hb
            refine Eq.trans ?_ (hall b hb)
            show lookH (mkL 1000000 _ ++ [(7, (cJ z).map .t)]) b = lookH (mkL 1000000 _ ++ []) b
            rw [lookH_app, lookH_app]
            have : PIN = 1000000 := rfl
            congr 1
            exact if_neg (by omega)
end Go.Proofs.YtjmbhknhiakkpaaGreat
namespace Go.Proofs.YtjmbhknhiakkpaaGreat
open Go Go.Abs
set_option maxHeartbeats 32000000
def argH : Option Nat → Int
  | none => -1
  | some r => r
@[go_sem] theorem argH_none : argH none = -1 := rfl
@[go_sem] theorem argH_some {r : Nat} : argH (some r) = (r : Int) := rfl
theorem lstH_lt {f : Nat → Int} {k m p : Nat} (h : (lstH f k m).1 = some p) : k ≤ p ∧ p < k + m := by
  have := lstH_spec f k m
  rw [h] at this
  exact ⟨this.2.1, this.2.2.1⟩
theorem cJ_at1 {n i : Nat} {g : Nat → Int} (hi : i < n) : (cellsL cJ (fnG n g)).drop (i * 2 + 1) = C.t (eN (dig (g i).natAbs)) :: cellsL cJ ((fnG n g).drop (i + 1)) := by
  rw [← List.drop_drop, cG_at cJ_len hi]; rfl
theorem lstH_le {f : Nat → Int} {k : Nat} : ∀ m, (lstH f k m).2 ≤ m
  | 0 => Nat.le_refl _
  | m + 1 => by
    have := lstH_le (f := f) (k := k) m
    rw [lstH]
    split
    · omega
    · show (lstH f k m).2 + 1 ≤ m + 1; omega
set_option maxRecDepth 100000 in
theorem h_least (M : MX) (r k : Nat) {K : Nat} (hK : K ≤ 10000000000) (hM : M.Ok) (hdim : M.N < 90000) (hr : r < M.R) (hk : k ≤ M.n) (hB : ∀ c, c < M.n → lN (M.g r c) ≤ K) :
    MCall Tryz.prog 83 [.one (.ptr PIN 0), litI .i64 r, litI .i64 k] (xM M) (.tup [litI .i64 (argH (lstH (M.g r) k (M.n - k)).1), litI .i64 (lstH (M.g r) k (M.n - k)).2]) (xM M) := by
  refine mcall_of_wpX mixed Tryz.call83 Tryz.func83 rfl Tryz.ntmps83 Tryz.results83 (by simp) (by decide) ?_ ?_ ?_ ?_ ?_
  · exact mk_low _
  · exact fun b => Iff.rfl
  · exact mk_cl _ hM
  · exact ⟨trivial, trivial, trivial⟩
  · have hdim' : M.R + M.n + M.n < 90000 := hdim
    have hrI : ((r : Int) < (M.R : Int)) = True := eq_true (by omega)
    have xw : xM M = lookH (mkE 1000000 M []) := rfl
    have hrf : ∀ D e, refsH (mkD 1000000 M D) (mkE 1000000 M e) = refsH (mkD 1000000 M D) e := fun D e => refsH_mk hM
    have a3 : (rowsC 1000100 2 M.n M.R).drop r = .vec (1000100 + r) 2 0 M.n :: (rowsC 1000100 2 M.n M.R).drop (r + 1) := rowsC_at hr
    have hrl := rowsC_len (b := 1000100) (sz := 2) (len := M.n) (n := M.R)
    have kf : ∀ e, lookH (mkE 1000000 M e) (1000100 + r) = some (cellsL cJ (fnG M.n (M.g r))) := fun e =>
      mkKf (b := 1000000) (M := M) (e := e) (i := r) (by unfold MX.N; omega)
    have cl := fun g => cJ_clen (n := M.n) (g := g)
    rw [xw]
    simp only [go_sem, PIN, mkLo]
    refine loop_inv (fun j : Nat => stL 60 [(0, .one (.ptr 1000000 0)), (1, litI .i64 r), (8, litI .i64 (argH (lstH (M.g r) k j).1)), (9, litI .i64 (lstH (M.g r) k j).2), (10, litI .i64 (k + j : Nat))]
      (mkE 1000000 M [])) (fun j => k + j ≤ M.n) (fun j => M.n - (k + j)) 0 ?_ hk ?_
    · (refine gstep_list rfl ?_ ?_ ?_ ?_ <;> (try simp only [go_sem, tail_one, hrf]) <;> (try simp only [true_or, or_true, or_false, beq_self_eq_true, and_self, true_and, and_true]))
      exact ⟨.inl rfl, .inl rfl⟩
    · intro j hj
      simp only [go_sem]
      refine CondR_if (fun hlt => ?_) (fun hge => ?_)
      · have hlt' : k + j < M.n := by omega
        have hlI : (((k + j : Nat) : Int) < (M.n : Int)) = True := eq_true (by omega)
        obtain ⟨q, hq⟩ : ∃ q, q = k + j := ⟨_, rfl⟩
        have hnx : lstH (M.g r) k (j + 1) = if M.g r q = 0 then lstH (M.g r) k j else (match (lstH (M.g r) k j).1 with | none => some q | some p => if (M.g r q).natAbs < (M.g r p).natAbs then some q else some p, (lstH (M.g r) k j).2 + 1) := by rw [hq]; rfl
        have hle := lstH_le (f := M.g r) (k := k) j
        have hpl : ∀ p, (lstH (M.g r) k j).1 = some p → p < M.n := fun p h => by have := lstH_lt h; omega
        have hq1 : ((k + (j + 1) : Nat) : Int) = (q : Int) + 1 := by omega
        have hmt : M.n - (k + (j + 1)) < M.n - (k + j) := by omega
        have hm1 : k + (j + 1) ≤ M.n := by omega
        rw [← hq] at hlI hlt' ⊢
        have c1 := cG_at (f := cJ) (sz := 2) (g := M.g r) cJ_len hlt'
        generalize lstH (M.g r) k j = o at *
        obtain ⟨oo, on⟩ := o
        have hl0 : (((dig (M.g r q).natAbs).length : Int) = 0) = (M.g r q = 0) := by
          refine propext ⟨fun h => ?_, fun h => by rw [h]; exact (by simp [dig_zero] : ((dig (0 : Int).natAbs).length : Int) = 0)⟩
          have h1 : dig (M.g r q).natAbs = [] := List.length_eq_zero_iff.1 (by omega)
          have h2 := val_dig (M.g r q).natAbs
          rw [h1] at h2
          have : (M.g r q).natAbs = 0 := h2.symm
          omega
        simp only [go_sem, a3, hrI, kf, c1, hlI, cl, hrl, hl0, mkLo]
        (repeat (refine And.intro (by omega) ?_))
        by_cases c0 : M.g r q = 0
        · have c0' : (M.g r q = 0) = True := eq_true c0
          rw [if_pos c0] at hnx
          simp only [go_sem, c0']
          refine ⟨j + 1, hm1, hmt, ?_⟩
          (refine gstep_list rfl ?_ ?_ ?_ ?_ <;> (try simp only [go_sem, tail_one, hrf, mkLo, AtM_upd, hnx, hq1, wrap_i64 (n := (q : Int) + 1) (by omega) (by omega)]) <;> (try simp))
        · have c0' : (M.g r q = 0) = False := eq_false c0
          rw [if_neg c0] at hnx
          have hw : IntKind.i64.wrap ((on : Int) + 1) = ((on + 1 : Nat) : Int) := by rw [wrap_i64 (by omega) (by omega)]; omega
          simp only [go_sem, c0', hw]
          cases oo with
          | none =>
            refine regA_by 0 rfl ?_
            simp only [go_sem]
            refine ⟨j + 1, hm1, hmt, ?_⟩
            (refine gstep_list rfl ?_ ?_ ?_ ?_ <;> (try simp only [go_sem, tail_one, hrf, mkLo, AtM_upd, hnx, hq1, wrap_i64 (n := (q : Int) + 1) (by omega) (by omega)]) <;> (try simp))
          | some p =>
            have hp := hpl p rfl
            have hpI : ((p : Int) < (M.n : Int)) = True := eq_true (by omega)
            have hp0 : ((p : Int) < 0) = False := eq_false (by omega)
            have c2 := cJ_at1 (n := M.n) (g := M.g r) hp
            have hbq := hB q hlt'
            have hbp := hB p hp
            have o1 := p_nat_Cmp (dig (M.g r q).natAbs) (dig (M.g r p).natAbs) (by unfold lN at hbq; omega) (by unfold lN at hbp; omega)
            rw [vN_dig, vN_dig] at o1
            have hcm : cmpI ((M.g r q).natAbs : Int) ((M.g r p).natAbs : Int) < 0 ↔ (M.g r q).natAbs < (M.g r p).natAbs := by
              unfold cmpI; split <;> (try split) <;> omega
            generalize cmpI ((M.g r q).natAbs : Int) ((M.g r p).natAbs : Int) = cm at *
            refine regA_by 0 rfl ?_
            simp only [go_sem, hp0, a3, hrI, kf, c2, hpI, cl, hrl, mkLo, famNe, famNe']
            (repeat (refine And.intro (by omega) ?_))
            ((repeat (refine regA_by 0 rfl ?_; simp only [go_sem, hp0, a3, hrI, kf, c2, hpI, cl, hrl, mkLo, famNe, famNe'])); refine call_pure (o1) rfl ?_; simp only [go_sem, hp0, a3, hrI, kf, c2, hpI, cl, hrl, mkLo, famNe, famNe']; (repeat (refine regA_by 0 rfl ?_; simp only [go_sem, hp0, a3, hrI, kf, c2, hpI, cl, hrl, mkLo, famNe, famNe'])))
            by_cases c3 : (M.g r q).natAbs < (M.g r p).natAbs
            · have c3' : (cm < 0) = True := eq_true (hcm.2 c3)
              have hnx : lstH (M.g r) k (j + 1) = (some q, on + 1) := by rw [hnx]; show (if _ then _ else _, _) = _; rw [if_pos c3]
              simp only [go_sem, c3']
              refine ⟨j + 1, hm1, hmt, ?_⟩
              (refine gstep_list rfl ?_ ?_ ?_ ?_ <;> (try simp only [go_sem, tail_one, hrf, mkLo, AtM_upd, hnx, hq1, wrap_i64 (n := (q : Int) + 1) (by omega) (by omega)]) <;> (try simp))
            · have c3' : (cm < 0) = False := eq_false (fun h => c3 (hcm.1 h))
              have hnx : lstH (M.g r) k (j + 1) = (some p, on + 1) := by rw [hnx]; show (if _ then _ else _, _) = _; rw [if_neg c3]
              simp only [go_sem, c3']
              refine ⟨j + 1, hm1, hmt, ?_⟩
              (refine gstep_list rfl ?_ ?_ ?_ ?_ <;> (try simp only [go_sem, tail_one, hrf, mkLo, AtM_upd, hnx, hq1, wrap_i64 (n := (q : Int) + 1) (by omega) (by omega)]) <;> (try simp))
      · obtain rfl : j = M.n - k := by omega
        simp only [go_sem]
        refine ⟨.inr rfl, fun x hx => ?_, rfl, fun _ _ => rfl⟩
        rcases List.mem_cons.1 hx with rfl | hx
        · trivial
        · obtain rfl := List.mem_singleton.1 hx; trivial
end Go.Proofs.YtjmbhknhiakkpaaGreat
namespace Go.Proofs.YtjmbhknhiakkpaaGreat
open Go Go.Abs
set_option maxHeartbeats 32000000
/-- What a maker in memory stands for. -/
structure Rep (M : MX) (S : HX) : Prop where
  en : M.n = S.n
  eR : M.R = S.R
  h : ∀ r c, r < M.R → c < M.n → M.g r c = S.h r c
  u : ∀ r c, r < M.n → c < M.n → M.g (M.R + r) c = S.u r c
  v : ∀ r c, r < M.n → c < M.n → M.g (M.R + M.n + M.s r) c = S.v r c
  ok : M.Ok
  inj : ∀ i j, i < M.n → j < M.n → M.s i = M.s j → i = j
section
variable {M : MX} {S : HX} {i j k r p : Nat} {z : Int}
theorem Rep.swap (hr : Rep M S) (hi : i < M.n) (hj : j < M.n) : Rep (M.swap i j) (S.swap i j) where
  en := hr.en
  eR := hr.eR
  h := fun r c h1 h2 => by
    have h1 : r < M.R := h1
    show (if r < M.R + M.n then fun c => M.g r (swN i j c) else M.g r) c = S.h r (swN i j c)
    rw [if_pos (by omega)]; exact hr.h r _ h1 (swN_lt hi hj h2)
  u := fun r c h1 h2 => by
    have h1 : r < M.n := h1
    show (if M.R + r < M.R + M.n then fun c => M.g (M.R + r) (swN i j c) else M.g (M.R + r)) c = S.u r (swN i j c)
    rw [if_pos (by omega)]; exact hr.u r _ h1 (swN_lt hi hj h2)
  v := fun r c h1 h2 => by
    show (if M.R + M.n + M.s (swN i j r) < M.R + M.n then _ else M.g (M.R + M.n + M.s (swN i j r))) c = S.v (swN i j r) c
    rw [if_neg (by omega)]; exact hr.v _ c (swN_lt hi hj h1) h2
  ok := M.swap_ok hr.ok hi hj
  inj := fun a b ha hb h => swN_inj (hr.inj _ _ (swN_lt hi hj ha) (swN_lt hi hj hb) h)
theorem Rep.turn (hr : Rep M S) (hi : i < M.n) : Rep (M.turn i) (S.turn i) where
  en := hr.en
  eR := hr.eR
  h := fun r c h1 h2 => by
    have h1 : r < M.R := h1
    show (if r < M.R + M.n then fTurn i (M.g r) else _) c = if c = i then -(S.h r c) else S.h r c
    rw [if_pos (by omega)]; unfold fTurn; rw [hr.h r c h1 h2]
  u := fun r c h1 h2 => by
    have h1 : r < M.n := h1
    show (if M.R + r < M.R + M.n then fTurn i (M.g (M.R + r)) else _) c = if c = i then -(S.u r c) else S.u r c
    rw [if_pos (by omega)]; unfold fTurn; rw [hr.u r c h1 h2]
  v := fun r c h1 h2 => by
    show (if M.R + M.n + M.s r < M.R + M.n then _ else if M.R + M.n + M.s r = M.R + M.n + M.s i then fun c => -(M.g (M.R + M.n + M.s r) c) else M.g (M.R + M.n + M.s r)) c = if r = i then -(S.v r c) else S.v r c
    rw [if_neg (by omega)]
    have hv := hr.v r c h1 h2
    by_cases e : r = i
    · rw [if_pos e, if_pos (by rw [e]), ← hv]
    · rw [if_neg e, if_neg (fun h => e (hr.inj _ _ h1 hi (by omega)))]; exact hv
  ok := hr.ok
  inj := hr.inj
theorem Rep.less (hr : Rep M S) (hi : i < M.n) (hj : j < M.n) : Rep (M.less i j z) (S.less i j z) where
  en := hr.en
  eR := hr.eR
  h := fun r c h1 h2 => by
    have h1 : r < M.R := h1
    show (if r < M.R + M.n then fLess i j z (M.g r) else _) c = if c = j then S.h r c - z * S.h r i else S.h r c
    rw [if_pos (by omega)]; unfold fLess; rw [hr.h r c h1 h2, hr.h r i h1 hi]
  u := fun r c h1 h2 => by
    have h1 : r < M.n := h1
    show (if M.R + r < M.R + M.n then fLess i j z (M.g (M.R + r)) else _) c = if c = j then S.u r c - z * S.u r i else S.u r c
    rw [if_pos (by omega)]; unfold fLess; rw [hr.u r c h1 h2, hr.u r i h1 hi]
  v := fun r c h1 h2 => by
    show (if M.R + M.n + M.s r < M.R + M.n then _ else if M.R + M.n + M.s r = M.R + M.n + M.s i then fun c => M.g (M.R + M.n + M.s r) c + z * M.g (M.R + M.n + M.s j) c else M.g (M.R + M.n + M.s r)) c = if r = i then S.v r c + z * S.v j c else S.v r c
    rw [if_neg (by omega)]
    have hv := hr.v r c h1 h2
    by_cases e : r = i
    · rw [if_pos e, if_pos (by rw [e]), ← hv, ← hr.v j c hj h2]
    · rw [if_neg e, if_neg (fun h => e (hr.inj _ _ h1 hi (by omega)))]; exact hv
  ok := hr.ok
  inj := hr.inj
/-! The same steps on makers in memory. -/
def MX.swp (M : MX) (p k : Nat) : MX := if p = k then M else M.swap p k
def redM (M : MX) (r k : Nat) : Nat → MX
  | 0 => M
  | m + 1 => (redM M r k m).less k (k + 1 + m) (Int.fdiv ((redM M r k m).g r (k + 1 + m)) ((redM M r k m).g r k))
def lefM (M : MX) (r k : Nat) : Nat → MX
  | 0 => M
  | i + 1 => (lefM M r k i).less k i (Int.fdiv ((lefM M r k i).g r i) ((lefM M r k i).g r k))
def hdM (M : MX) (r k : Nat) : Option Nat × Nat := lstH (M.g r) k (M.n - k)
def stM (M : MX) (r k : Nat) : Option MX := match (hdM M r k).1 with
  | none => none
  | some p => if (hdM M r k).2 = 1 then none else some (redM (M.swp p k) r k (M.n - (k + 1)))
def itM (M : MX) (r k : Nat) : Nat → MX
  | 0 => M
  | t + 1 => match stM (itM M r k t) r k with | some S' => S' | none => itM M r k t
def sgnM (M : MX) (r k : Nat) : MX := if M.g r k < 0 then M.turn k else M
def endM (M : MX) (r k : Nat) : MX := match (hdM M r k).1 with
  | none => M
  | some p => lefM (sgnM (M.swp p k) r k) r k k
theorem Rep.swp (hr : Rep M S) (hp : p < M.n) (hk : k < M.n) : Rep (M.swp p k) (S.swap p k) := by
  unfold MX.swp
  split
  · rename_i e; rw [e, swap_self]; exact hr
  · exact hr.swap hp hk
theorem redM_dim : ∀ m, (redM M r k m).n = M.n ∧ (redM M r k m).R = M.R
  | 0 => ⟨rfl, rfl⟩
  | m + 1 => redM_dim m
theorem lefM_dim : ∀ m, (lefM M r k m).n = M.n ∧ (lefM M r k m).R = M.R
  | 0 => ⟨rfl, rfl⟩
  | m + 1 => lefM_dim m
theorem swp_dim : (M.swp p k).n = M.n ∧ (M.swp p k).R = M.R := by unfold MX.swp; split <;> exact ⟨rfl, rfl⟩
theorem sgnM_dim : (sgnM M r k).n = M.n ∧ (sgnM M r k).R = M.R := by unfold sgnM; split <;> exact ⟨rfl, rfl⟩
theorem rep_red (hr : Rep M S) (hR : r < M.R) : ∀ m, k + 1 + m ≤ M.n → Rep (redM M r k m) (redH S r k m)
  | 0, _ => hr
  | m + 1, h => by
    have ih := rep_red hr hR m (by omega)
    have hd := redM_dim (M := M) (r := r) (k := k) m
    show Rep ((redM M r k m).less k (k + 1 + m) _) ((redH S r k m).less k (k + 1 + m) _)
    rw [ih.h r (k + 1 + m) (by rw [hd.2]; exact hR) (by rw [hd.1]; omega), ih.h r k (by rw [hd.2]; exact hR) (by rw [hd.1]; omega)]
    exact ih.less (by rw [hd.1]; omega) (by rw [hd.1]; omega)
theorem rep_lef (hr : Rep M S) (hR : r < M.R) (hk : k < M.n) : ∀ m, m ≤ k → Rep (lefM M r k m) (lefH S r k m)
  | 0, _ => hr
  | m + 1, h => by
    have ih := rep_lef hr hR hk m (by omega)
    have hd := lefM_dim (M := M) (r := r) (k := k) m
    show Rep ((lefM M r k m).less k m _) ((lefH S r k m).less k m _)
    rw [ih.h r m (by rw [hd.2]; exact hR) (by rw [hd.1]; omega), ih.h r k (by rw [hd.2]; exact hR) (by rw [hd.1]; omega)]
    exact ih.less (by rw [hd.1]; omega) (by rw [hd.1]; omega)
theorem rep_hd (hr : Rep M S) (hR : r < M.R) (hk : k ≤ M.n) : hdM M r k = hdE S r k := by
  unfold hdM hdE
  rw [← hr.en]
  exact lstH_congr fun c h1 h2 => hr.h r c hR (by omega)
theorem rep_sgn (hr : Rep M S) (hR : r < M.R) (hk : k < M.n) : Rep (sgnM M r k) (sgnH S r k) := by
  unfold sgnM sgnH
  rw [hr.h r k hR hk]
  split
  · exact hr.turn hk
  · exact hr
theorem hd_lt {M : MX} {r k p : Nat} (h : (hdM M r k).1 = some p) : k ≤ p ∧ p < M.n := by have := lstH_lt h; omega
theorem rep_st (hr : Rep M S) (hR : r < M.R) (hk : k ≤ M.n) : match stE S r k, stM M r k with | some S', some M' => Rep M' S' ∧ M'.n = M.n ∧ M'.R = M.R | none, none => True | _, _ => False := by
  have hh := rep_hd hr hR hk
  unfold stE stM
  rw [← hh]
  cases hp : (hdM M r k).1 with
  | none => trivial
  | some p =>
    simp only []
    by_cases c : (hdM M r k).2 = 1
    · rw [if_pos c, if_pos c]; trivial
    · rw [if_neg c, if_neg c]
      have hl := hd_lt hp
      have hd := swp_dim (M := M) (p := p) (k := k)
      have hm := redM_dim (M := M.swp p k) (r := r) (k := k) (M.n - (k + 1))
      rw [← hr.en]
      exact ⟨rep_red (hr.swp hl.2 (by omega)) (by rw [hd.2]; exact hR) _ (by rw [hd.1]; omega), hm.1.trans hd.1, hm.2.trans hd.2⟩
theorem rep_it (hr : Rep M S) (hR : r < M.R) (hk : k ≤ M.n) : ∀ t, Rep (itM M r k t) (itE S r k t) ∧ (itM M r k t).n = M.n ∧ (itM M r k t).R = M.R
  | 0 => ⟨hr, rfl, rfl⟩
  | t + 1 => by
    obtain ⟨h1, h2, h3⟩ := rep_it hr hR hk t
    have := rep_st (r := r) (k := k) h1 (by omega) (by omega)
    rw [itM, itE]
    revert this
    cases stE (itE S r k t) r k <;> cases stM (itM M r k t) r k
    · intro _; exact ⟨h1, h2, h3⟩
    · intro h; exact h.elim
    · intro h; exact h.elim
    · rintro ⟨h4, h5, h6⟩; exact ⟨h4, h5.trans h2, h6.trans h3⟩
theorem rep_end (hr : Rep M S) (hR : r < M.R) (hk : k ≤ M.n) : Rep (endM M r k) (endE S r k).1 ∧ (endE S r k).2 = (hdM M r k).1.isSome := by
  have hh := rep_hd hr hR hk
  unfold endM endE
  rw [← hh]
  cases hp : (hdM M r k).1 with
  | none => exact ⟨hr, rfl⟩
  | some p =>
    have hl := hd_lt hp
    have hd := swp_dim (M := M) (p := p) (k := k)
    have hd2 := sgnM_dim (M := M.swp p k) (r := r) (k := k)
    refine ⟨rep_lef (rep_sgn (hr.swp hl.2 (by omega)) (by rw [hd.2]; exact hR) (by rw [hd.1]; omega)) (by rw [hd2.2, hd.2]; exact hR) (by rw [hd2.1, hd.1]; omega) _ (Nat.le_refl _), rfl⟩
end
/-- Bounds on all that a maker holds. -/
structure LB (K : Nat) (S : HX) : Prop where
  h : ∀ r c, r < S.R → c < S.n → lN (S.h r c) ≤ K
  u : ∀ r c, r < S.n → c < S.n → lN (S.u r c) ≤ K
  v : ∀ r c, r < S.n → c < S.n → lN (S.v r c) ≤ K
theorem LB.all {K : Nat} {M : MX} {S : HX} (h : LB K S) (hr : Rep M S) : (∀ q c, q < M.R + M.n → c < M.n → lN (M.g q c) ≤ K) ∧ ∀ i c, i < M.n → c < M.n → lN (M.g (M.R + M.n + M.s i) c) ≤ K := by
  have en := hr.en
  have eR := hr.eR
  refine ⟨fun q c hq hc => ?_, fun i c hi hc => ?_⟩
  · by_cases e : q < M.R
    · rw [hr.h q c e hc]; exact h.h q c (by omega) (by omega)
    · obtain ⟨p, rfl⟩ : ∃ p, q = M.R + p := ⟨q - M.R, by omega⟩
      rw [hr.u p c (by omega) hc]; exact h.u p c (by omega) (by omega)
  · rw [hr.v i c hi hc]; exact h.v i c (by omega) (by omega)
/-- All states that a row runs through are small. -/
structure LBrow (K : Nat) (S : HX) (r k T : Nat) : Prop where
  stop : stE (itE S r k T) r k = none
  go : ∀ t, t < T → stE (itE S r k t) r k ≠ none
  it : ∀ t, t ≤ T → LB K (itE S r k t)
  red : ∀ t p m, t < T → (hdE (itE S r k t) r k).1 = some p → k + 1 + m ≤ S.n → LB K (redH ((itE S r k t).swap p k) r k m)
  piv : ∀ p, (hdE (itE S r k T) r k).1 = some p → LB K ((itE S r k T).swap p k)
  lef : ∀ p m, (hdE (itE S r k T) r k).1 = some p → m ≤ k → LB K (lefH (pivH (itE S r k T) r k p) r k m)
end Go.Proofs.YtjmbhknhiakkpaaGreat
