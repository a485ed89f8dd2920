/- At every input the call answers true and leaves its arguments as they were; no conditions. -/
import Derived.Test.YtfgejnedaijjiaaGreatCb
import Derived.Test.YtfgejnedaijjiaaGreatMh
import Derived.Test.YtfgejnedaijjiaaGreatNx
set_option linter.unusedSimpArgs false
set_option linter.unusedVariables false
namespace Go.Proofs.YtfgejnedaijjiaaGreat
open Go Go.Abs
set_option maxHeartbeats 16000000
/-! ### A solver in memory -/
def cI1 (v : Nat) : List T := [.lit (.int .i64 (v : Int))]
theorem cI1_len (v : Nat) : (cI1 v).length = 1 := rfl
attribute [go_sem] cI1
def slv0 (b : Nat) (S : SX) : List C := [accC (b + 1) 1 (fnG S.R S.rw), accC (b + 2) 1 (fnG S.n S.cl), cvC (b + 3) S.R, .t (.lit (.int .i64 (S.n : Int))), accC (b + 4) 3 (fnG S.R S.mo), .vec (b + 5) 3 0 (S.n + S.R)]
def slvL (b : Nat) (S : SX) : List (Nat × List C) :=
  famE (b + 100) cR (fun i => fnG S.n (S.a i)) S.R ++ (accE (b + 1) cI1 (fnG S.R S.rw) ++ (accE (b + 2) cI1 (fnG S.n S.cl) ++ (cvE (b + 3) S.R (rowsC (b + 100) 3 S.n S.R) ++ (accE (b + 4) cR (fnG S.R S.mo) ++ [(b, slv0 b S), (b + 5, cellsL cR (fnG (S.n + S.R) S.va))]))))
/-- A solver, and other blocks. -/
def slvE (b : Nat) (S : SX) (e : List (Nat × List C)) : List (Nat × List C) := slvL b S ++ e
theorem slvE_nil (b : Nat) (S : SX) : slvE b S [] = slvL b S := List.append_nil _
def xS (S : SX) : Heap := lookH (slvE PIN S [])
theorem xS_def (S : SX) : xS S = lookH (slvL PIN S) := by unfold xS; rw [slvE_nil]
theorem slv_keys (b : Nat) (S : SX) : (slvL b S).map (·.1) = famD (b + 100) S.R ++ (cvD (b + 1) S.R ++ (cvD (b + 2) S.n ++ (cvD (b + 3) S.R ++ (cvD (b + 4) S.R ++ [b, b + 5])))) := by
  unfold slvL
  rw [List.map_append, List.map_append, List.map_append, List.map_append, List.map_append, map_famE, map_accE, map_accE, map_cvE, map_accE, accD_fn, accD_fn, accD_fn]; rfl
theorem slv_key {b k : Nat} {S : SX} (h : k ∈ (slvL b S).map (·.1)) : b ≤ k ∧ k < b + 100 + S.R := by
  rw [slv_keys] at h
  have hcv : ∀ {c n : Nat}, k ∈ cvD c n → k = c := fun {c n} h => by
    unfold cvD at h; split at h
    · cases h
    · exact List.mem_singleton.1 h
  rcases List.mem_append.1 h with h | h
  · unfold famD at h
    obtain ⟨i, hi, rfl⟩ := List.mem_map.1 h
    have := List.mem_range.1 hi; omega
  · rcases List.mem_append.1 h with h | h
    · have := hcv h; omega
    · rcases List.mem_append.1 h with h | h
      · have := hcv h; omega
      · rcases List.mem_append.1 h with h | h
        · have := hcv h; omega
        · rcases List.mem_append.1 h with h | h
          · have := hcv h; omega
          · rcases List.mem_cons.1 h with h | h
            · omega
            · have := List.mem_singleton.1 h; omega
theorem slv_low (S : SX) (b : Nat) (h : b < PIN) : xS S b = none := by rw [xS_def]; exact low_of (fun k hk => (slv_key hk).1) b h
theorem slv_dom {S S' : SX} (h1 : S'.n = S.n) (h2 : S'.R = S.R) (b : Nat) : xS S' b = none ↔ xS S b = none := by
  rw [xS_def, xS_def, lookH_dom, lookH_dom, slv_keys, slv_keys, h1, h2]
theorem slv_refs (b : Nat) (S : SX) : refsH ((slvL b S).map (·.1)) (slvL b S) = true := by
  rw [slv_keys]
  unfold slvL
  have hD : ∀ {D : List Nat} {c n : Nat}, (n == 0 || (cvD c n ++ D).contains c) = true := fun {D c n} => by
    rw [contains_cv]
    by_cases h : n = 0
    · simp [h]
    · simp [h]
  have hm : ∀ {D D' : List Nat} {n c : Nat}, (n == 0 || D.contains c) = true → (n == 0 || (D' ++ D).contains c) = true := fun {D D' n c} h => by
    rw [Bool.or_eq_true] at h ⊢
    rcases h with h | h
    · exact .inl h
    · right; rw [List.contains_iff_mem] at h ⊢; exact List.mem_append_right _ h
  rw [refsH_fam, refsH_acc, refsH_acc, refsH_cv, refsH_acc, rowsC_refs]
  rw [Bool.or_true, Bool.true_and]
  unfold slv0
  simp only [refsH, List.all_cons, List.all_nil, refsC_acc, refsC_cv, refsC_t, refsC_vec, isEmpty_fn, cellsL_refs, Bool.and_true, Bool.true_and, Bool.and_eq_true]
  refine ⟨hm hD, hm (hm hD), hm (hm (hm hD)), hm (hm (hm (hm hD))), ?_⟩
  rw [List.contains_iff_mem]
  exact List.mem_append_right _ (List.mem_append_right _ (List.mem_append_right _ (List.mem_append_right _ (List.mem_append_right _ (by simp)))))
theorem slv_cl (S : SX) : ∀ b cs, xS S b = some cs → ∀ c ∈ cs, inC (xS S) c := by rw [xS_def]; exact cl_of_refs (slv_refs PIN S)
theorem slv_p {S : SX} : inA (xS S) (.one (.ptr PIN 0)) := by
  show xS S PIN ≠ none
  rw [xS_def, Ne, lookH_dom, slv_keys]
  intro h; exact h (by simp)
/-- The same solver elsewhere. -/
theorem slv_at (b : Nat) (S : SX) (k : Nat) : lookH (slvL b S) (b + k) = if 100 ≤ k ∧ k < 100 + S.R then some (cellsL cR (fnG S.n (S.a (k - 100)))) else if k = 1 then accH cI1 (fnG S.R S.rw) none else if k = 2 then accH cI1 (fnG S.n S.cl) none
    else if k = 3 then (if S.R = 0 then none else some (rowsC (b + 100) 3 S.n S.R)) else if k = 4 then accH cR (fnG S.R S.mo) none else if k = 0 then some (slv0 b S) else if k = 5 then some (cellsL cR (fnG (S.n + S.R) S.va)) else none := by
  unfold slvL
  rw [lookH_fam]
  by_cases c1 : 100 ≤ k ∧ k < 100 + S.R
  · rw [if_pos c1, if_pos ⟨by omega, by omega⟩, show b + k - (b + 100) = k - 100 by omega]
  · rw [if_neg c1, if_neg (fun h => c1 ⟨by omega, by omega⟩), lookH_acc, lookH_acc, lookH_cv, lookH_acc]
    show (if b + k = b + 1 then _ else if b + k = b + 2 then _ else if b + k = b + 3 ∧ S.R ≠ 0 then _ else if b + k = b + 4 then _ else if b + k = b then _ else if b + k = b + 5 then _ else none) = _
    have haccN : ∀ {α : Type} {f : α → List T} {n : Nat} {g : Nat → α} {o : Option (List C)}, o = none → accH f (fnG n g) o = accH f (fnG n g) none := fun {α f n g o} h => by rw [h]
    by_cases k1 : k = 1
    · subst k1
      rw [if_pos rfl, if_pos rfl]
      refine haccN ?_
      rw [if_neg (by omega), if_neg (fun h => by omega), if_neg (by omega), lookH_cons, if_neg (by omega), lookH_cons, if_neg (by omega)]; rfl
    · rw [if_neg (by omega), if_neg k1]
      by_cases k2 : k = 2
      · subst k2
        rw [if_pos rfl, if_pos rfl]
        refine haccN ?_
        rw [if_neg (fun h => by omega), if_neg (by omega), lookH_cons, if_neg (by omega), lookH_cons, if_neg (by omega)]; rfl
      · rw [if_neg (by omega), if_neg k2]
        by_cases k3 : k = 3
        · subst k3
          rw [if_pos rfl]
          by_cases hR : S.R = 0
          · rw [if_neg (fun h => h.2 hR), if_pos hR, if_neg (by omega), if_neg (by omega), if_neg (by omega)]
          · rw [if_pos ⟨rfl, hR⟩, if_neg hR]
        · rw [if_neg (fun h => by omega), if_neg k3]
          by_cases k4 : k = 4
          · subst k4
            rw [if_pos rfl, if_pos rfl]
            refine haccN ?_
            rw [lookH_cons, if_neg (by omega), lookH_cons, if_neg (by omega)]; rfl
          · rw [if_neg (by omega), if_neg k4]
            by_cases k0 : k = 0
            · subst k0
              rw [if_pos (by omega), if_pos rfl]
            · rw [if_neg (by omega), if_neg k0]
              by_cases k5 : k = 5
              · subst k5; rw [if_pos rfl, if_pos rfl]
              · rw [if_neg (by omega), if_neg k5]
theorem cellsL_th {α : Type} {f : α → List T} {xs : List α} {θ : Nat → Nat} : (cellsL f xs).map (thC θ) = cellsL f xs := by
  unfold cellsL; rw [List.map_map]; rfl
theorem accC_th {α : Type} {b sz : Nat} {xs : List α} {θ : Nat → Nat} : thC θ (accC b sz xs) = accC (thI θ b) sz xs := by cases xs <;> rfl
theorem cvC_th {b n : Nat} {θ : Nat → Nat} : thC θ (cvC b n) = cvC (thI θ b) n := by unfold cvC; split <;> rfl
theorem thI_add {d k : Nat} : thI (fun k => d + k) (PIN + k) = d + k := by show d + (PIN + k - PIN) = d + k; omega
theorem slv_th (d : Nat) (S : SX) (k : Nat) {cs : List C} (h : xS S (PIN + k) = some cs) : lookH (slvL d S) (d + k) = some (cs.map (thC fun k => d + k)) := by
  rw [xS_def, slv_at] at h
  rw [slv_at]
  have hacc : ∀ {α : Type} {f : α → List T} {xs : List α}, accH f xs none = some cs → accH f xs none = some (cs.map (thC fun k => d + k)) := fun {α f xs} h => by
    cases xs with
    | nil => cases h
    | cons x xs =>
      have h : some (cellsL f (x :: xs)) = some cs := h
      cases h
      rw [cellsL_th]; rfl
  split
  · rename_i c; rw [if_pos c] at h; cases h; rw [cellsL_th]
  · rename_i c; rw [if_neg c] at h
    split
    · rename_i c; rw [if_pos c] at h; exact hacc h
    · rename_i c; rw [if_neg c] at h
      split
      · rename_i c; rw [if_pos c] at h; exact hacc h
      · rename_i c; rw [if_neg c] at h
        split
        · rename_i c; rw [if_pos c] at h
          split
          · rename_i c; rw [if_pos c] at h; cases h
          · rename_i c; rw [if_neg c] at h; cases h
            rw [rowsC_th fun i hi => by rw [thI_add, show PIN + 100 + i = PIN + (100 + i) by omega, thI_add]; omega, thI_add]
        · rename_i c; rw [if_neg c] at h
          split
          · rename_i c; rw [if_pos c] at h; exact hacc h
          · rename_i c; rw [if_neg c] at h
            split
            · rename_i c; rw [if_pos c] at h; cases h
              show some (slv0 d S) = some [thC _ (accC (PIN + 1) 1 (fnG S.R S.rw)), thC _ (accC (PIN + 2) 1 (fnG S.n S.cl)), thC _ (cvC (PIN + 3) S.R), .t (.lit (.int .i64 (S.n : Int))), thC _ (accC (PIN + 4) 3 (fnG S.R S.mo)), .vec (thI (fun k => d + k) (PIN + 5)) 3 0 (S.n + S.R)]
              rw [accC_th, accC_th, cvC_th, accC_th, thI_add, thI_add, thI_add, thI_add, thI_add]; rfl
            · rename_i c; rw [if_neg c] at h
              split
              · rename_i c; rw [if_pos c] at h; cases h; rw [cellsL_th]
              · rename_i c; rw [if_neg c] at h; cases h
theorem xS_in {S : SX} {b : Nat} (h : xS S b ≠ none) : PIN ≤ b ∧ b < PIN + 100 + S.R := by
  rw [xS_def, Ne, lookH_dom] at h
  exact slv_key (Classical.not_not.1 h)
/-- What a heap holds where a solver lies. -/
def AtS (H : Heap) (b : Nat) (S : SX) : Prop := ∀ k, k < 100 + S.R → ∀ cs, lookH (slvL b S) (b + k) = some cs → H (b + k) = some cs
/-- A call that reads a solver. -/
theorem rd_slv {F : FuncId} {ys args : List AV} {S : SX} {H : Heap} {r : AV} (d : Nat) (h : MCall Tryz.prog F args (xS S) r (xS S)) (has : ys = args.map (thA (fun k => d + k))) (hargs : ∀ x ∈ args, inA (xS S) x)
    (hH : AtS H d S) : RdC Tryz.prog F ys H (thA (fun k => d + k) r) := by
  subst has
  have hk : ∀ b, PIN ≤ b → PIN + (b - PIN) = b := fun b hb => by omega
  refine rd_ren (fun k => d + k) h (slv_low S) (fun b b' hb hb' e => ?_) (slv_cl S) hargs fun b cs hb => ?_
  · have h1 := xS_in hb
    have h2 := xS_in hb'
    have e : d + (b - PIN) = d + (b' - PIN) := e
    omega
  · have h1 := xS_in (b := b) (S := S) (by rw [hb]; simp)
    exact hH (b - PIN) (by omega) _ (slv_th d S _ (by rw [hk b h1.1]; exact hb))
/-- A call that changes it. -/
theorem call_slv {m : Nat} {F : FuncId} {ys args : List AV} {S S' : SX} {σ : St} {K : AV → St → Prop} {r : AV} (d : Nat) (hm : m = 1 ∨ m = 2) (h : MCall Tryz.prog F args (xS S) r (xS S')) (hn : S'.n = S.n) (hR : S'.R = S.R) (has : ys = args.map (thA (fun k => d + k))) (hargs : ∀ x ∈ args, inA (xS S) x)
    (hH : AtS σ.H d S) (hK : K (thA (fun k => d + k) r) (σ.withH (fun t => (lookH (slvL d S') t).or (σ.H t)))) : CallA Tryz.prog m F ys σ K := by
  have hk : ∀ b, PIN ≤ b → PIN + (b - PIN) = b := fun b hb => by omega
  refine call_ren (fun k => d + k) hm h has (slv_low S) (slv_dom hn hR) (fun b b' hb hb' e => ?_) (slv_cl S) hargs (fun b cs hb => ?_) (fun b cs hb => ?_) (fun b hb => ?_) hK
  · have h1 := xS_in hb
    have h2 := xS_in hb'
    have e : d + (b - PIN) = d + (b' - PIN) := e
    omega
  · have h1 := xS_in (b := b) (S := S) (by rw [hb]; simp)
    exact hH (b - PIN) (by omega) _ (slv_th d S _ (by rw [hk b h1.1]; exact hb))
  · have h1 := xS_in (b := b) (S := S') (by rw [hb]; simp)
    show (lookH (slvL d S') (d + (b - PIN))).or _ = _
    rw [slv_th d S' _ (by rw [hk b h1.1]; exact hb)]; rfl
  · show (lookH (slvL d S') b).or (σ.H b) = σ.H b
    cases hx : lookH (slvL d S') b with
    | none => rfl
    | some cs =>
      exfalso
      have hm : b ∈ (slvL d S').map (·.1) := Classical.byContradiction fun hno => by rw [lookH_none hno] at hx; cases hx
      have hkey := slv_key hm
      have e : d + (b - d) = b := by omega
      refine hb (PIN + (b - d)) ?_ ?_
      · refine fun hnone => ?_
        have hnone' := (slv_dom hn hR _).2 hnone
        rw [xS_def, slv_at] at hnone'
        rw [← e, slv_at] at hx
        split at hx
        · rename_i c1; rw [if_pos c1] at hnone'; cases hnone'
        · rename_i c1; rw [if_neg c1] at hnone'
          split at hx
          · rename_i c2; rw [if_pos c2] at hnone'; rw [hnone'] at hx; cases hx
          · rename_i c2; rw [if_neg c2] at hnone'
            split at hx
            · rename_i c3; rw [if_pos c3] at hnone'; rw [hnone'] at hx; cases hx
            · rename_i c3; rw [if_neg c3] at hnone'
              split at hx
              · rename_i c4; rw [if_pos c4] at hnone'
                split at hx
                · cases hx
                · rename_i c5; rw [if_neg c5] at hnone'; cases hnone'
              · rename_i c4; rw [if_neg c4] at hnone'
                split at hx
                · rename_i c5; rw [if_pos c5] at hnone'; rw [hnone'] at hx; cases hx
                · rename_i c5; rw [if_neg c5] at hnone'
                  split at hx
                  · rename_i c6; rw [if_pos c6] at hnone'; cases hnone'
                  · rename_i c6; rw [if_neg c6] at hnone'
                    split at hx
                    · rename_i c7; rw [if_pos c7] at hnone'; cases hnone'
                    · cases hx
      · show d + (PIN + (b - d) - PIN) = b; omega
/-! ### Lookups -/
section
variable {b t i : Nat} {S : SX} {e : List (Nat × List C)} {D : List Nat}
theorem lookH_app : ∀ (l l' : List (Nat × List C)) (t : Nat), lookH (l ++ l') t = (lookH l t).or (lookH l' t)
  | [], _, _ => rfl
  | (k, v) :: l, l', t => by
    show (if t = k then some v else lookH (l ++ l') t) = (if t = k then some v else lookH l t).or _
    by_cases e : t = k
    · rw [if_pos e, if_pos e]; rfl
    · rw [if_neg e, if_neg e]; exact lookH_app l l' t
theorem slvE_at (k : Nat) : lookH (slvE b S e) (b + k) = (lookH (slvL b S) (b + k)).or (lookH e (b + k)) := lookH_app _ _ _
@[go_sem] theorem slvK0 : lookH (slvE b S e) b = some (slv0 b S) := by
  have := slvE_at (b := b) (S := S) (e := e) 0
  rw [slv_at] at this
  rw [if_neg (by omega), if_neg (by omega), if_neg (by omega), if_neg (by omega), if_neg (by omega), if_pos rfl] at this
  exact this
@[go_sem] theorem slvK1 : lookH (slvE b S e) (b + 1) = if S.R = 0 then lookH e (b + 1) else some (cellsL cI1 (fnG S.R S.rw)) := by
  rw [slvE_at, slv_at, if_neg (by omega), if_pos rfl]
  split
  · rename_i h; rw [h]; rfl
  · rename_i h
    have := fnG_ne (g := S.rw) h
    cases e : fnG S.R S.rw with
    | nil => exact (this e).elim
    | cons _ _ => rfl
@[go_sem] theorem slvK2 : lookH (slvE b S e) (b + 2) = if S.n = 0 then lookH e (b + 2) else some (cellsL cI1 (fnG S.n S.cl)) := by
  rw [slvE_at, slv_at, if_neg (by omega), if_neg (by omega), if_pos rfl]
  split
  · rename_i h; rw [h]; rfl
  · rename_i h
    have := fnG_ne (g := S.cl) h
    cases e : fnG S.n S.cl with
    | nil => exact (this e).elim
    | cons _ _ => rfl
@[go_sem] theorem slvK3 : lookH (slvE b S e) (b + 3) = if S.R = 0 then lookH e (b + 3) else some (rowsC (b + 100) 3 S.n S.R) := by
  rw [slvE_at, slv_at, if_neg (by omega), if_neg (by omega), if_neg (by omega), if_pos rfl]
  split <;> rfl
@[go_sem] theorem slvK4 : lookH (slvE b S e) (b + 4) = if S.R = 0 then lookH e (b + 4) else some (cellsL cR (fnG S.R S.mo)) := by
  rw [slvE_at, slv_at, if_neg (by omega), if_neg (by omega), if_neg (by omega), if_neg (by omega), if_pos rfl]
  split
  · rename_i h; rw [h]; rfl
  · rename_i h
    have := fnG_ne (g := S.mo) h
    cases e : fnG S.R S.mo with
    | nil => exact (this e).elim
    | cons _ _ => rfl
@[go_sem] theorem slvK5 : lookH (slvE b S e) (b + 5) = some (cellsL cR (fnG (S.n + S.R) S.va)) := by
  rw [slvE_at, slv_at, if_neg (by omega), if_neg (by omega), if_neg (by omega), if_neg (by omega), if_neg (by omega), if_neg (by omega), if_pos rfl]; rfl
@[go_sem] theorem slvKf : lookH (slvE b S e) (b + 100 + i) = if i < S.R then some (cellsL cR (fnG S.n (S.a i))) else lookH e (b + 100 + i) := by
  rw [show b + 100 + i = b + (100 + i) by omega, slvE_at, slv_at]
  by_cases h : i < S.R
  · rw [if_pos ⟨by omega, by omega⟩, if_pos h, show 100 + i - 100 = i by omega]; rfl
  · rw [if_neg (fun h2 => h (by omega)), if_neg (by omega), if_neg (by omega), if_neg (by omega), if_neg (by omega), if_neg (by omega), if_neg (by omega), if_neg h]; rfl
theorem slvLo (h : t < b) : lookH (slvE b S e) t = lookH e t := by
  unfold slvE
  rw [lookH_app, lookH_none fun hm => by have := slv_key hm; omega]; rfl
theorem AllH_slv {σ : St} : AllH σ (slvE b S e) = (AtS σ.H b S ∧ AllH σ e) := by
  have happ : ∀ (l l' : List (Nat × List C)), AllH σ (l ++ l') = (AllH σ l ∧ AllH σ l') := fun l l' => by
    induction l with
    | nil => simp [AllH]
    | cons x l ih => obtain ⟨k, v⟩ := x; show (σ.H k = some v ∧ AllH σ (l ++ l')) = ((σ.H k = some v ∧ AllH σ l) ∧ AllH σ l'); rw [ih, and_assoc]
  unfold slvE
  rw [happ]
  congr 1
  refine propext ⟨fun h k _ cs hk => (h.look _ _ hk).1, fun h => ?_⟩
  have h2 : ∀ k cs, lookH (slvL b S) k = some cs → σ.H k = some cs := fun k cs hk => by
    have hm : k ∈ (slvL b S).map (·.1) := Classical.byContradiction fun hn => by rw [lookH_none hn] at hk; cases hk
    have := slv_key hm
    have e : b + (k - b) = k := by omega
    rw [← e]
    exact h (k - b) (by omega) cs (by rw [e]; exact hk)
  have hacc : ∀ {α : Type} {f : α → List T} {n c : Nat} {g : Nat → α}, (accH f (fnG n g) none = lookH (slvL b S) c) → (fnG n g = [] ∨ σ.H c = some (cellsL f (fnG n g))) := fun {α f n c g} hh => by
    by_cases hn : n = 0
    · left; rw [hn]; rfl
    · right
      refine h2 _ _ ?_
      rw [← hh]
      have := fnG_ne (g := g) hn
      cases e : fnG n g with
      | nil => exact (this e).elim
      | cons _ _ => rfl
  have e1 : accH cI1 (fnG S.R S.rw) none = lookH (slvL b S) (b + 1) := by rw [slv_at, if_neg (by omega), if_pos rfl]
  have e2 : accH cI1 (fnG S.n S.cl) none = lookH (slvL b S) (b + 2) := by rw [slv_at, if_neg (by omega), if_neg (by omega), if_pos rfl]
  have e3 : lookH (slvL b S) (b + 3) = (if S.R = 0 then none else some (rowsC (b + 100) 3 S.n S.R)) := by rw [slv_at, if_neg (by omega), if_neg (by omega), if_neg (by omega), if_pos rfl]
  have e4 : accH cR (fnG S.R S.mo) none = lookH (slvL b S) (b + 4) := by rw [slv_at, if_neg (by omega), if_neg (by omega), if_neg (by omega), if_neg (by omega), if_pos rfl]
  have e0 : some (slv0 b S) = lookH (slvL b S) b := by
    have := slv_at b S 0
    rw [if_neg (by omega), if_neg (by omega), if_neg (by omega), if_neg (by omega), if_neg (by omega), if_pos rfl] at this
    exact this.symm
  have e5 : some (cellsL cR (fnG (S.n + S.R) S.va)) = lookH (slvL b S) (b + 5) := by rw [slv_at, if_neg (by omega), if_neg (by omega), if_neg (by omega), if_neg (by omega), if_neg (by omega), if_neg (by omega), if_pos rfl]
  have ef : ∀ i, i < S.R → lookH (slvL b S) (b + 100 + i) = some (cellsL cR (fnG S.n (S.a i))) := fun i hi => by
    rw [show b + 100 + i = b + (100 + i) by omega, slv_at, if_pos ⟨by omega, by omega⟩, show 100 + i - 100 = i by omega]
  unfold slvL
  rw [AllH_fam, AllH_acc, AllH_acc, AllH_cv, AllH_acc]
  refine ⟨fun i hi => h2 _ _ (ef i hi), hacc e1, hacc e2, ?_, hacc e4, h2 _ _ e0.symm, h2 _ _ e5.symm, trivial⟩
  by_cases hR : S.R = 0
  · exact .inl hR
  · right; rw [if_neg hR] at e3; exact h2 _ _ e3
attribute [go_sem] AllH_slv
@[go_sem] theorem AtS_self : AtS (lookH (slvE b S e)) b S = True := eq_true fun k _ cs h => by rw [slvE_at, h]; rfl
theorem AtS_upd {H : Heap} {x : Option (List C)} (h : t < b) : AtS (upd H t x) b S = AtS H b S := by
  refine propext ⟨fun h2 k hk cs hc => ?_, fun h2 k hk cs hc => ?_⟩
  · have := h2 k hk cs hc
    rw [upd_at, if_neg (by omega)] at this; exact this
  · rw [upd_at, if_neg (by omega)]; exact h2 k hk cs hc
/-- The solver's parts are written. -/
theorem AtS.va {H : Heap} (h : AtS H b S) (va : Nat → Rat) : AtS (upd H (b + 5) (some (cellsL cR (fnG (S.n + S.R) va)))) b { S with va := va } := fun k hk cs hc => by
  have h0 := h k hk cs
  rw [slv_at] at hc h0
  rw [upd_at]
  by_cases e : k = 5
  · subst e
    rw [if_pos rfl]
    rw [if_neg (by omega), if_neg (by omega), if_neg (by omega), if_neg (by omega), if_neg (by omega), if_neg (by omega), if_pos rfl] at hc
    exact hc
  · rw [if_neg (by omega)]
    refine h0 ?_
    rw [← hc, if_neg e, if_neg e]; rfl
theorem AtS.rw {H : Heap} (h : AtS H b S) (hR : S.R ≠ 0) (rw' : Nat → Nat) : AtS (upd H (b + 1) (some (cellsL cI1 (fnG S.R rw')))) b { S with rw := rw' } := fun k hk cs hc => by
  have h0 := h k hk cs
  rw [slv_at] at hc h0
  rw [upd_at]
  by_cases e : k = 1
  · subst e
    rw [if_pos rfl]
    rw [if_neg (by omega), if_pos rfl] at hc
    rw [← hc]
    have := fnG_ne (g := rw') hR
    show some (cellsL cI1 (fnG S.R rw')) = accH cI1 (fnG S.R rw') none
    cases e : fnG S.R rw' with
    | nil => exact (this e).elim
    | cons _ _ => rfl
  · rw [if_neg (by omega)]
    refine h0 ?_
    rw [if_neg e] at hc ⊢
    rw [← hc]
    have hs : some (slv0 b S) = some (slv0 b { S with rw := rw' }) := by
      unfold slv0
      have : accC (b + 1) 1 (fnG S.R S.rw) = accC (b + 1) 1 (fnG S.R rw') := by
        have h1 := fnG_ne (g := rw') hR
        have h2 := fnG_ne (g := S.rw) hR
        have l1 : (fnG S.R rw').length = S.R := fnG_len
        have l2 : (fnG S.R S.rw).length = S.R := fnG_len
        cases e1 : fnG S.R rw' with
        | nil => exact (h1 e1).elim
        | cons x xs =>
          cases e2 : fnG S.R S.rw with
          | nil => exact (h2 e2).elim
          | cons y ys =>
            rw [e1] at l1; rw [e2] at l2
            show C.vec _ _ _ (y :: ys).length = C.vec _ _ _ (x :: xs).length
            rw [l1, l2]
      show some [_, _, _, _, _, _] = some [_, _, _, _, _, _]
      rw [this]
    rw [hs]
theorem AtS.cl {H : Heap} (h : AtS H b S) (hn : S.n ≠ 0) (cl' : Nat → Nat) : AtS (upd H (b + 2) (some (cellsL cI1 (fnG S.n cl')))) b { S with cl := cl' } := fun k hk cs hc => by
  have h0 := h k hk cs
  rw [slv_at] at hc h0
  rw [upd_at]
  by_cases e : k = 2
  · subst e
    rw [if_pos rfl]
    rw [if_neg (by omega), if_neg (by omega), if_pos rfl] at hc
    rw [← hc]
    have := fnG_ne (g := cl') hn
    show some (cellsL cI1 (fnG S.n cl')) = accH cI1 (fnG S.n cl') none
    cases e : fnG S.n cl' with
    | nil => exact (this e).elim
    | cons _ _ => rfl
  · rw [if_neg (by omega)]
    refine h0 ?_
    rw [if_neg e] at hc ⊢
    rw [← hc]
    have hs : some (slv0 b S) = some (slv0 b { S with cl := cl' }) := by
      unfold slv0
      have : accC (b + 2) 1 (fnG S.n S.cl) = accC (b + 2) 1 (fnG S.n cl') := by
        have h1 := fnG_ne (g := cl') hn
        have h2 := fnG_ne (g := S.cl) hn
        have l1 : (fnG S.n cl').length = S.n := fnG_len
        have l2 : (fnG S.n S.cl).length = S.n := fnG_len
        cases e1 : fnG S.n cl' with
        | nil => exact (h1 e1).elim
        | cons x xs =>
          cases e2 : fnG S.n S.cl with
          | nil => exact (h2 e2).elim
          | cons y ys =>
            rw [e1] at l1; rw [e2] at l2
            show C.vec _ _ _ (y :: ys).length = C.vec _ _ _ (x :: xs).length
            rw [l1, l2]
      show some [_, _, _, _, _, _] = some [_, _, _, _, _, _]
      rw [this]
    rw [hs]
theorem AtS.row {H : Heap} (h : AtS H b S) {r : Nat} (hr : r < S.R) (g : Nat → Rat) : AtS (upd H (b + 100 + r) (some (cellsL cR (fnG S.n g)))) b { S with a := fun i => if i = r then g else S.a i } := fun k hk cs hc => by
  have h0 := h k hk cs
  rw [slv_at] at hc h0
  rw [upd_at]
  by_cases e : k = 100 + r
  · subst e
    rw [if_pos (by omega)]
    rw [if_pos ⟨by omega, by show 100 + r < 100 + S.R; omega⟩] at hc
    rw [← hc]
    show some (cellsL cR (fnG S.n g)) = some (cellsL cR (fnG S.n (if 100 + r - 100 = r then g else S.a (100 + r - 100))))
    rw [if_pos (by omega)]
  · rw [if_neg (by omega)]
    refine h0 ?_
    rw [← hc]
    by_cases c1 : 100 ≤ k ∧ k < 100 + S.R
    · rw [if_pos c1, if_pos c1]
      show _ = some (cellsL cR (fnG S.n (if k - 100 = r then g else S.a (k - 100))))
      rw [if_neg (by omega)]
    · rw [if_neg c1, if_neg c1]; rfl
theorem AtS.congr {H : Heap} (h : AtS H b S) {S' : SX} (e : S = S') : AtS H b S' := e ▸ h
/-! What is told of the names. -/
def slvD (b : Nat) (S : SX) (D : List Nat) : List Nat := (slvL b S).map (·.1) ++ D
@[go_sem] theorem map_slvE : (slvE b S e).map (fun p => p.1) = slvD b S (e.map (fun p => p.1)) := by unfold slvE slvD; rw [List.map_append]
@[go_sem] theorem map_slvE' : (slvE b S e).map Prod.fst = slvD b S (e.map Prod.fst) := by unfold slvE slvD; rw [List.map_append]
theorem refsC_mono {D D' : List Nat} (h : ∀ x ∈ D, x ∈ D') {c : C} (hc : refsC D c = true) : refsC D' c = true := by
  have key : ∀ b, D.contains b = true → D'.contains b = true := fun b hb => by
    rw [List.contains_iff_mem] at hb ⊢; exact h b hb
  cases c with
  | t x => rfl
  | ptr b o => exact key b hc
  | vec b s o n => exact key b hc
  | fn f caps => exact List.all_eq_true.2 fun p hp => key _ (List.all_eq_true.1 hc p hp)
theorem refsH_mono {D D' : List Nat} (h : ∀ x ∈ D, x ∈ D') : ∀ {l : List (Nat × List C)}, refsH D l = true → refsH D' l = true
  | [], _ => rfl
  | (k, v) :: l, hl => by
    have hl : (v.all (refsC D) && refsH D l) = true := hl
    rw [Bool.and_eq_true, List.all_eq_true] at hl
    show (v.all (refsC D') && refsH D' l) = true
    rw [Bool.and_eq_true, List.all_eq_true]
    exact ⟨fun c hc => refsC_mono h (hl.1 c hc), refsH_mono h hl.2⟩
@[go_sem] theorem refsH_slv : refsH (slvD b S D) (slvE b S e) = refsH (slvD b S D) e := by
  unfold slvE slvD
  rw [refsH_append, refsH_mono (D := (slvL b S).map (·.1)) (fun x hx => List.mem_append_left _ hx) (slv_refs b S), Bool.true_and]
theorem slv_mem {k : Nat} (h : lookH (slvL b S) (b + k) ≠ none) : (slvD b S D).contains (b + k) = true := by
  rw [List.contains_iff_mem]
  refine List.mem_append_left D ?_
  exact Classical.byContradiction fun hn => h (lookH_none hn)
@[go_sem] theorem slv_ct0 : (slvD b S D).contains b = true := by
  have := slv_mem (b := b) (S := S) (D := D) (k := 0) (by
    rw [slv_at, if_neg (by omega), if_neg (by omega), if_neg (by omega), if_neg (by omega), if_neg (by omega), if_pos rfl]; simp)
  exact this
@[go_sem] theorem slv_ct5 : (slvD b S D).contains (b + 5) = true :=
  slv_mem (by rw [slv_at, if_neg (by omega), if_neg (by omega), if_neg (by omega), if_neg (by omega), if_neg (by omega), if_neg (by omega), if_pos rfl]; simp)
theorem slv_ctf (h : i < S.R) : (slvD b S D).contains (b + 100 + i) = true := by
  rw [show b + 100 + i = b + (100 + i) by omega]
  exact slv_mem (by rw [slv_at, if_pos ⟨by omega, by omega⟩]; simp)
theorem slv_cta {c n : Nat} (h : (lookH (slvL b S) (b + c) ≠ none) ↔ n ≠ 0) : (slvD b S D).contains (b + c) = (!(n == 0) || D.contains (b + c)) := by
  by_cases hn : n = 0
  · have e : (slvD b S D).contains (b + c) = ((slvL b S).map (·.1) ++ D).contains (b + c) := rfl
    rw [e, hn]
    show _ = D.contains (b + c)
    rw [Bool.eq_iff_iff, List.contains_iff_mem, List.contains_iff_mem, List.mem_append]
    refine ⟨fun h2 => h2.elim (fun hm => ?_) id, .inr⟩
    obtain ⟨cs, hcs⟩ := lookH_mem hm
    exact (h.1 (by rw [hcs]; simp) hn).elim
  · rw [slv_mem (h.2 hn), show (n == 0) = false from beq_false_of_ne hn]; rfl
theorem accH_iff {α : Type} {f : α → List T} {n : Nat} {g : Nat → α} : accH f (fnG n g) none ≠ none ↔ n ≠ 0 := by
  constructor
  · intro h e; rw [e] at h; exact h rfl
  · intro h
    cases e : fnG n g with
    | nil => exact (fnG_ne h e).elim
    | cons _ _ => simp [accH]
@[go_sem] theorem slv_ct1 : (slvD b S D).contains (b + 1) = (!(S.R == 0) || D.contains (b + 1)) := slv_cta (by
  rw [slv_at, if_neg (by omega), if_pos rfl]; exact accH_iff)
@[go_sem] theorem slv_ct2 : (slvD b S D).contains (b + 2) = (!(S.n == 0) || D.contains (b + 2)) := slv_cta (by
  rw [slv_at, if_neg (by omega), if_neg (by omega), if_pos rfl]; exact accH_iff)
@[go_sem] theorem slv_ct3 : (slvD b S D).contains (b + 3) = (!(S.R == 0) || D.contains (b + 3)) := slv_cta (by
  rw [slv_at, if_neg (by omega), if_neg (by omega), if_neg (by omega), if_pos rfl]
  by_cases h : S.R = 0
  · simp [h]
  · simp [h])
@[go_sem] theorem slv_ct4 : (slvD b S D).contains (b + 4) = (!(S.R == 0) || D.contains (b + 4)) := slv_cta (by
  rw [slv_at, if_neg (by omega), if_neg (by omega), if_neg (by omega), if_neg (by omega), if_pos rfl]; exact accH_iff)
attribute [go_sem] isEmpty_fn
theorem slv_ctl {t : Nat} (h : t < b) : (slvD b S D).contains t = D.contains t := by
  have e : (slvD b S D).contains t = ((slvL b S).map (·.1) ++ D).contains t := rfl
  rw [e, Bool.eq_iff_iff, List.contains_iff_mem, List.contains_iff_mem, List.mem_append]
  exact ⟨fun h2 => h2.elim (fun hm => by have := slv_key hm; omega) id, .inr⟩
attribute [go_sem] slv0 false_and and_false Nat.add_lt_add_iff_left Nat.add_right_inj Nat.add_sub_cancel_left
/-- What a method leaves. -/
theorem xS_end {H : Heap} (h : AtS H PIN S) (hn : ∀ t, PIN ≤ t → lookH (slvL PIN S) t = none → H t = none) : ∀ t, PIN ≤ t → H t = xS S t := fun t ht => by
  rw [xS_def]
  cases hx : lookH (slvL PIN S) t with
  | none => exact hn t ht hx
  | some cs =>
    have hm : t ∈ (slvL PIN S).map (·.1) := Classical.byContradiction fun hno => by rw [lookH_none hno] at hx; cases hx
    have := slv_key hm
    have e : PIN + (t - PIN) = t := by omega
    have h2 := h (t - PIN) (by omega) cs
    rw [e] at h2
    exact h2 hx
end
end Go.Proofs.YtfgejnedaijjiaaGreat
namespace Go.Proofs.YtfgejnedaijjiaaGreat
open Go Go.Abs
set_option maxHeartbeats 16000000
theorem numPos2 {v : Rat} : 0 < v ↔ 0 < v.num := by
  have h1 : 0 ≤ (-v).num ↔ 0 ≤ -v := Rat.num_nonneg
  rw [Rat.neg_num] at h1
  have h2 : 0 < v ↔ ¬ 0 ≤ -v := by
    constructor
    · intro h; grind
    · intro h; grind
  rw [h2, ← h1]; omega
theorem accG_ne {α : Type} {b sz n : Nat} {g : Nat → α} (h : n ≠ 0) : accC b sz (fnG n g) = .vec b sz 0 n := by
  have hne := fnG_ne (g := g) h
  have e : accC b sz (fnG n g) = .vec b sz 0 (fnG n g).length := by
    cases e : fnG n g with
    | nil => exact (hne e).elim
    | cons x xs => rfl
  rw [e, fnG_len]
theorem accHG_ne {α : Type} {f : α → List T} {n : Nat} {g : Nat → α} {o : Option (List C)} (h : n ≠ 0) : accH f (fnG n g) o = some (cellsL f (fnG n g)) := by
  have hne := fnG_ne (g := g) h
  cases e : fnG n g with
  | nil => exact (hne e).elim
  | cons x xs => rfl
set_option maxRecDepth 100000 in
theorem s_over (S : SX) (v : Nat) {K : Nat} (hK : K ≤ 1900) (hd : S.n + S.R < 1000000) (hv : v < S.n + S.R) (hmo : ∀ i, i < S.R → lQ (S.mo i) ≤ K) (hva : ∀ v, v < S.n + S.R → lQ (S.va v) ≤ K) :
    MCall Tryz.prog 105 [.one (.ptr PIN 0), litI .i64 v] (xS S) (.agg ((cR (S.ov v)).map .t)) (xS S) := by
  refine mcall_of_wpX mixed Tryz.call105 Tryz.func105 rfl Tryz.ntmps105 Tryz.results105 (by simp) (by decide) ?_ ?_ ?_ ?_ ?_
  · exact slv_low S
  · exact fun b => Iff.rfl
  · exact slv_cl S
  · exact fun c hc => by obtain ⟨t, _, rfl⟩ := List.mem_map.1 hc; trivial
  · have z := s_zero
    obtain ⟨m1, hm1⟩ : ∃ c : Int, c = -1 := ⟨_, rfl⟩
    have om : PCall Tryz.prog 91 [tI .i64 (-1)] (eI m1) := by rw [hm1]; exact w_Of_e (-1) (by decide) (by decide)
    have l1 : lN m1 ≤ 1 := lN_small (by omega)
    have o1 := q_Of1_e m1 (by omega)
    have lm := lQ_int m1
    have pl := q_Plus 0 (m1 : Rat) (by have := lQ_zero; omega) (by omega)
    have em : (0 : Rat) + (m1 : Rat) = -1 := by rw [hm1, Rat.zero_add]; rfl
    rw [em] at pl
    by_cases c : v < S.n
    · have c' : ((v : Int) < (S.n : Int)) = True := eq_true (by omega)
      have e : S.ov v = -1 := if_pos c
      rw [e]
      simp only [go_sem, PIN, xS, c', slvLo]
      ((repeat (refine regA_by 0 rfl ?_; simp only [go_sem, PIN, slvLo])); refine call_pure (z) rfl ?_; simp only [go_sem, PIN, slvLo]; (repeat (refine regA_by 0 rfl ?_; simp only [go_sem, PIN, slvLo])); refine call_pure (om) rfl ?_; simp only [go_sem, PIN, slvLo]; (repeat (refine regA_by 0 rfl ?_; simp only [go_sem, PIN, slvLo])); refine call_pure (o1) rfl ?_; simp only [go_sem, PIN, slvLo]; (repeat (refine regA_by 0 rfl ?_; simp only [go_sem, PIN, slvLo])); refine call_pure (pl) rfl ?_; simp only [go_sem, PIN, slvLo]; (repeat (refine regA_by 0 rfl ?_; simp only [go_sem, PIN, slvLo])))
      exact xret1 (.inr rfl) (by simp only [go_sem] <;> decide) (by simp only [go_sem] <;> rfl) (upd_hi (by decide) (upd_hi (by decide) fun _ _ => rfl))
    · have c' : ((v : Int) < (S.n : Int)) = False := eq_false (by omega)
      have hR : S.R ≠ 0 := by omega
      have e : S.ov v = S.va v - S.mo (v - S.n) := if_neg c
      obtain ⟨j, hj⟩ : ∃ j, j = v - S.n := ⟨_, rfl⟩
      rw [← hj] at e
      have hjw : IntKind.i64.wrap ((v : Int) - (S.n : Int)) = (j : Int) := by rw [wrap_i64 (by omega) (by omega)]; omega
      have h1 := hva v hv
      have h2 := hmo j (by omega)
      have om := q_Minus (S.mo j) (by omega)
      have pl := q_Plus (S.va v) (-(S.mo j)) (by omega) (by rw [lQ_neg]; omega)
      rw [← Rat.sub_eq_add_neg, ← e] at pl
      have a1 := cG_at (f := cR) (sz := 3) (g := S.va) (n := S.n + S.R) (i := v) cR_len hv
      have a2 := cG_at (f := cR) (sz := 3) (g := S.mo) (n := S.R) (i := j) cR_len (by omega)
      have g1 := accG_ne (b := 1000004) (sz := 3) (g := S.mo) hR
      have g2 := fun o => accHG_ne (f := cR) (g := S.mo) (o := o) hR
      have b1 : ((j : Int) < (S.R : Int)) = True := eq_true (by omega)
      have b2 : ((v : Int) < ((S.n + S.R : Nat) : Int)) = True := eq_true (by omega)
      have d1 : (cellsL cR (fnG (S.n + S.R) S.va)).length = (S.n + S.R) * 3 := cG_len cR_len
      have d2 : (cellsL cR (fnG S.R S.mo)).length = S.R * 3 := cG_len cR_len
      simp only [go_sem, PIN, xS, c', slvLo]
      refine regA_by 0 rfl ?_
      simp only [go_sem, PIN, slvLo, hR, hjw, a1, a2, g1, g2, b1, b2]
      (repeat (refine And.intro (by omega) ?_))
      ((repeat (refine regA_by 0 rfl ?_; simp only [go_sem])); refine call_pure (om) rfl ?_; simp only [go_sem]; (repeat (refine regA_by 0 rfl ?_; simp only [go_sem])); refine call_pure (pl) rfl ?_; simp only [go_sem]; (repeat (refine regA_by 0 rfl ?_; simp only [go_sem])))
      exact xret1 (.inr rfl) (by simp only [go_sem] <;> decide) (by simp only [go_sem] <;> rfl) (upd_hi (by decide) (upd_hi (by decide) fun _ _ => rfl))
/-- Bounds on what a solver holds. -/
structure BdX (K : Nat) (S : SX) : Prop where
  dim : S.n + S.R < 90000
  mo : ∀ i, i < S.R → lQ (S.mo i) ≤ K
  va : ∀ v, v < S.n + S.R → lQ (S.va v) ≤ K
  a : ∀ i j, i < S.R → j < S.n → lQ (S.a i j) ≤ K
  rw : ∀ i, i < S.R → S.rw i < S.n + S.R
  cl : ∀ c, c < S.n → S.cl c < S.n + S.R
theorem BdX.ov {K : Nat} {S : SX} (h : BdX K S) {v : Nat} (hv : v < S.n + S.R) : lQ (S.ov v) ≤ 2 * K + 1 := by
  unfold SX.ov
  have h1 := lQ_one
  split
  · rw [lQ_neg]; omega
  · have h2 := h.va v hv
    have h3 := h.mo (v - S.n) (by omega)
    have := lQ_sub (S.va v) (S.mo (v - S.n))
    omega
theorem rd_over (S : SX) (v : Nat) {K : Nat} (hK : K ≤ 1900) (hB : BdX K S) (hv : v < S.n + S.R) (d : Nat) {H : Heap} (hH : AtS H d S) :
    RdC Tryz.prog 105 [.one (.ptr d 0), litI .i64 v] H (.agg ((cR (S.ov v)).map .t)) :=
  rd_slv d (s_over S v hK (by have := hB.dim; omega) hv hB.mo hB.va) rfl (List.forall_mem_cons.2 ⟨slv_p, List.forall_mem_cons.2 ⟨trivial, fun x hx => by cases hx⟩⟩) hH
/-- The place of the least told so far. -/
def argI : Option Nat → Int
  | none => -1
  | some r => r
@[go_sem] theorem argm_zero {p : Nat → Bool} {k : Nat → Nat} : argm p k 0 = none := rfl
@[go_sem] theorem argI_none : argI none = -1 := rfl
@[go_sem] theorem argI_some {r : Nat} : argI (some r) = (r : Int) := rfl
theorem argm_lt {p : Nat → Bool} {k : Nat → Nat} {n r : Nat} (h : argm p k n = some r) : r < n := (argm_some h).1
set_option maxRecDepth 100000 in
theorem s_broken (S : SX) {K : Nat} (hK : K ≤ 900) (hB : BdX K S) :
    MCall Tryz.prog 53 [.one (.ptr PIN 0)] (xS S) (litI .i64 (argI S.broken)) (xS S) := by
  have hdim := hB.dim
  refine mcall_of_wpX mixed Tryz.call53 Tryz.func53 rfl Tryz.ntmps53 Tryz.results53 (by simp) (by decide) ?_ ?_ ?_ ?_ ?_
  · exact slv_low S
  · exact fun b => Iff.rfl
  · exact slv_cl S
  · trivial
  · simp only [go_sem, PIN, xS, slvLo]
    refine loop_inv (fun i : Nat => stL 49 [(0, .one (.ptr 1000000 0)), (3, litI .i64 (argI (argm S.bad S.rw i))), (10, .one (accC 1000001 1 (fnG S.R S.rw))), (11, litI .i64 S.R), (12, litI .i64 i)] (slvE 1000000 S []))
      (fun i => i ≤ S.R) (fun i => S.R - i) 0 ?_ (Nat.zero_le _) ?_
    · (refine gstep_list rfl ?_ ?_ ?_ ?_ <;> (try simp only [go_sem, tail_one]) <;> (try simp))
    · intro i hi
      simp only [go_sem]
      refine CondR_if (fun hlt => ?_) (fun hge => ?_)
      · have hlt' : i < S.R := by omega
        have hR : S.R ≠ 0 := by omega
        have hR0 : (S.R == 0) = false := beq_false_of_ne hR
        have a1 := cG_at (f := cI1) (sz := 1) (g := S.rw) (n := S.R) (i := i) cI1_len hlt'
        rw [Nat.mul_one] at a1
        have g1 := accG_ne (b := 1000001) (sz := 1) (g := S.rw) hR
        have d1 : (cellsL cI1 (fnG S.R S.rw)).length = S.R := by rw [cG_len cI1_len, Nat.mul_one]
        have hv := hB.rw i hlt'
        have hnx : argm S.bad S.rw (i + 1) = match argm S.bad S.rw i with
            | none => if S.bad i then some i else none
            | some o => if S.bad i && decide (S.rw i < S.rw o) then some i else some o := rfl
        have hol : ∀ r, argm S.bad S.rw i = some r → r < i := fun r h => argm_lt h
        have hov := hB.ov hv
        have hbd : S.bad i = (decide (S.n ≤ S.rw i) && decide (0 < S.ov (S.rw i))) := rfl
        have hsk : S.bad i = false → argm S.bad S.rw (i + 1) = argm S.bad S.rw i := fun h => by
          rw [hnx, h]; cases argm S.bad S.rw i <;> rfl
        generalize ho : argm S.bad S.rw i = o at *
        have rd := rd_over S (S.rw i) (by omega) hB hv 1000000 (H := lookH (slvE 1000000 S [])) (by rw [AtS_self]; trivial)
        have sg := q_Sign_e (S.ov (S.rw i)) (by omega)
        simp only [go_sem, g1, a1, hlt, hR]
        (repeat (refine And.intro (by omega) ?_))
        by_cases c1 : S.n ≤ S.rw i
        · have c1' : ((S.n : Int) ≤ (S.rw i : Int)) = True := eq_true (by omega)
          simp only [go_sem, c1']
          refine call_rd2 (.inr rfl) rd ?_
          simp only [go_sem]
          refine call_pure sg rfl ?_
          have hvs : 0 < S.ov (S.rw i) ↔ 0 < (S.ov (S.rw i)).num.sign := by rw [Int.sign_pos_iff, numPos2]
          by_cases c2 : 0 < S.ov (S.rw i)
          · have c2' : (0 < (S.ov (S.rw i)).num.sign) = True := eq_true (hvs.1 c2)
            have hb : S.bad i = true := by rw [hbd, decide_eq_true c1, decide_eq_true c2]; rfl
            rw [hb] at hnx
            cases o with
            | none =>
              have hnx : argm S.bad S.rw (i + 1) = some i := hnx
              simp only [go_sem, c2']
              refine ⟨i + 1, hlt', (by show S.R - (i + 1) < S.R - i; omega), ?_⟩
              (refine gstep_list rfl ?_ ?_ ?_ ?_ <;> (try simp only [go_sem, tail_one, hnx, hR0, wrap_i64 (n := (i : Int) + 1) (by omega) (by omega)]) <;> (try simp))
            | some r =>
              have hr := hol r rfl
              have hr0 : ((r : Int) < 0) = False := eq_false (by omega)
              have hr1 : ((r : Int) < (S.R : Int)) = True := eq_true (by omega)
              have a2 := cG_at (f := cI1) (sz := 1) (g := S.rw) (n := S.R) (i := r) cI1_len (by omega)
              rw [Nat.mul_one] at a2
              have hnx : argm S.bad S.rw (i + 1) = if S.rw i < S.rw r then some i else some r := by
                rw [hnx]; show (if (true && decide (S.rw i < S.rw r)) = true then some i else some r) = _
                by_cases c : S.rw i < S.rw r <;> simp [c]
              simp only [go_sem, c2', hr0, hr1, g1, a2, hR]
              (repeat (refine And.intro (by omega) ?_))
              by_cases c3 : S.rw i < S.rw r
              · have c3' : ((S.rw i : Int) < (S.rw r : Int)) = True := eq_true (by omega)
                rw [if_pos c3] at hnx
                simp only [go_sem, c3']
                refine ⟨i + 1, hlt', (by show S.R - (i + 1) < S.R - i; omega), ?_⟩
                (refine gstep_list rfl ?_ ?_ ?_ ?_ <;> (try simp only [go_sem, tail_one, hnx, hR0, wrap_i64 (n := (i : Int) + 1) (by omega) (by omega)]) <;> (try simp))
              · have c3' : ((S.rw i : Int) < (S.rw r : Int)) = False := eq_false (by omega)
                rw [if_neg c3] at hnx
                simp only [go_sem, c3']
                refine ⟨i + 1, hlt', (by show S.R - (i + 1) < S.R - i; omega), ?_⟩
                (refine gstep_list rfl ?_ ?_ ?_ ?_ <;> (try simp only [go_sem, tail_one, hnx, hR0, wrap_i64 (n := (i : Int) + 1) (by omega) (by omega)]) <;> (try simp))
          · have c2' : (0 < (S.ov (S.rw i)).num.sign) = False := eq_false (fun h => c2 (hvs.2 h))
            have hnx := hsk (by rw [hbd, decide_eq_false c2, Bool.and_false])
            simp only [go_sem, c2']
            refine ⟨i + 1, hlt', (by show S.R - (i + 1) < S.R - i; omega), ?_⟩
            (refine gstep_list rfl ?_ ?_ ?_ ?_ <;> (try simp only [go_sem, tail_one, hnx, hR0, wrap_i64 (n := (i : Int) + 1) (by omega) (by omega)]) <;> (try simp))
        · have c1' : ((S.n : Int) ≤ (S.rw i : Int)) = False := eq_false (by omega)
          have hnx := hsk (by rw [hbd, decide_eq_false c1, Bool.false_and])
          simp only [go_sem, c1']
          refine ⟨i + 1, hlt', (by show S.R - (i + 1) < S.R - i; omega), ?_⟩
          (refine gstep_list rfl ?_ ?_ ?_ ?_ <;> (try simp only [go_sem, tail_one, hnx, hR0, wrap_i64 (n := (i : Int) + 1) (by omega) (by omega)]) <;> (try simp))
      · obtain rfl : i = S.R := by omega
        rw [show argm S.bad S.rw S.R = S.broken from rfl]
        simp only [go_sem]
        exact xret1 (.inr rfl) trivial (by simp only [go_sem] <;> rfl) (fun _ _ => rfl)
end Go.Proofs.YtfgejnedaijjiaaGreat
