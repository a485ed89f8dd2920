/- At every input the call answers true and leaves its arguments as they were; no conditions. -/
import Derived.Test.YtgnfgaioeldagaaGreatMg
set_option linter.unusedSimpArgs false
set_option linter.unusedVariables false
namespace Go.Abs
open Go
/-! ### Lists by functions; slices of cells that grow from nil -/
def fnG {α : Type} (n : Nat) (g : Nat → α) : List α := (List.range n).map g
section
variable {α : Type} {n : Nat} {g : Nat → α}
@[go_sem] theorem fnG_len : (fnG n g).length = n := by unfold fnG; simp
theorem fnG_get {i : Nat} (h : i < (fnG n g).length) : (fnG n g)[i] = g i := by
  have h' : i < ((List.range n).map g).length := h
  show ((List.range n).map g)[i]'h' = g i
  simp
theorem fnG_set {k : Nat} {y : α} : (fnG n g).set k y = fnG n (fun v => if v = k then y else g v) := by
  apply List.ext_getElem
  · simp [fnG]
  · intro i h1 h2
    rw [List.getElem_set, fnG_get, fnG_get]
    by_cases e : k = i
    · rw [if_pos e, if_pos e.symm]
    · rw [if_neg e, if_neg (fun h => e h.symm)]
theorem fnG_congr {g' : Nat → α} (h : ∀ v, v < n → g v = g' v) : fnG n g = fnG n g' := by
  unfold fnG; exact List.map_congr_left fun i hi => h i (List.mem_range.1 hi)
theorem fnG_zero : fnG 0 g = [] := rfl
theorem fnG_succ : fnG (n + 1) g = fnG n g ++ [g n] := by unfold fnG; rw [List.range_succ, List.map_append]; rfl
theorem fnG_ne (h : n ≠ 0) : fnG n g ≠ [] := by
  intro e
  have := congrArg List.length e
  rw [fnG_len] at this; exact h this
theorem fnG_take {m : Nat} (h : m ≤ n) : (fnG n g).take m = fnG m g := by
  apply List.ext_getElem
  · simp [fnG]; omega
  · intro i h1 h2
    rw [List.getElem_take, fnG_get, fnG_get]
theorem fnG_mem {x : α} (h : x ∈ fnG n g) : ∃ i, i < n ∧ x = g i := by
  obtain ⟨i, hi, rfl⟩ := List.mem_iff_getElem.1 h
  rw [fnG_get]; rw [fnG_len] at hi; exact ⟨i, hi, rfl⟩
end
section
variable {α : Type} {n sz i : Nat} {g : Nat → α} {f : α → List T}
theorem cG_len (h : ∀ x, (f x).length = sz) : (cellsL f (fnG n g)).length = n * sz := by rw [cellsL_length h, fnG_len]
theorem cG_at (h : ∀ x, (f x).length = sz) (hi : i < n) : (cellsL f (fnG n g)).drop (i * sz) = (f (g i)).map .t ++ cellsL f ((fnG n g).drop (i + 1)) := by
  have := cellsL_at (f := f) (sz := sz) (xs := fnG n g) h (i := i) (by rw [fnG_len]; exact hi)
  rwa [fnG_get] at this
theorem cG_set (h : ∀ x, (f x).length = sz) (hi : i < n) {y : α} : setCs (cellsL f (fnG n g)) (i * sz) ((f y).map .t) = cellsL f (fnG n (fun v => if v = i then y else g v)) := by
  rw [cellsL_set h (by rw [fnG_len]; exact hi), fnG_set]
theorem elemG (hi : i < n) : elemD f (fnG n g) i = f (g i) := by
  rw [elemD_lt (by rw [fnG_len]; exact hi), fnG_get]
end
/-- A slice of cells that was nil and has grown; its block is b. -/
def cvC (b n : Nat) : C := if n = 0 then .t (.seq (some true) []) else .vec b 1 0 n
def cvE (b n : Nat) (cs : List C) : List (Nat × List C) := if n = 0 then [] else [(b, cs)]
def cvD (b n : Nat) : List Nat := if n = 0 then [] else [b]
section
variable {b n t : Nat} {cs : List C} {l : List (Nat × List C)} {D : List Nat} {σ : St}
@[go_sem] theorem cvC_zero : cvC b 0 = .t (.seq (some true) []) := rfl
@[go_sem] theorem cvE_zero : cvE b 0 cs = [] := rfl
theorem cvC_ne (h : n ≠ 0) : cvC b n = .vec b 1 0 n := if_neg h
theorem cvE_ne (h : n ≠ 0) : cvE b n cs = [(b, cs)] := if_neg h
@[go_sem] theorem lookH_cv : lookH (cvE b n cs ++ l) t = if t = b ∧ n ≠ 0 then some cs else lookH l t := by
  unfold cvE
  by_cases h : n = 0
  · rw [if_pos h, if_neg (fun h2 => h2.2 h)]; rfl
  · rw [if_neg h]
    show (if t = b then some cs else lookH l t) = _
    by_cases e : t = b
    · rw [if_pos e, if_pos ⟨e, h⟩]
    · rw [if_neg e, if_neg (fun h2 => e h2.1)]
@[go_sem] theorem AllH_cv : AllH σ (cvE b n cs ++ l) = ((n = 0 ∨ σ.H b = some cs) ∧ AllH σ l) := by
  unfold cvE
  by_cases h : n = 0
  · rw [if_pos h]; simp [h]
  · rw [if_neg h]; simp [h, AllH]
@[go_sem] theorem map_cvE : (cvE b n cs).map (fun p => p.1) = cvD b n := by unfold cvE cvD; split <;> rfl
@[go_sem] theorem map_cvE' : (cvE b n cs).map Prod.fst = cvD b n := by unfold cvE cvD; split <;> rfl
@[go_sem] theorem refsH_cv : refsH D (cvE b n cs ++ l) = ((n == 0 || cs.all (refsC D)) && refsH D l) := by
  unfold cvE
  by_cases h : n = 0
  · rw [if_pos h, h]; rfl
  · rw [if_neg h, show (n == 0) = false from beq_false_of_ne h]; rfl
@[go_sem] theorem refsC_cv : refsC D (cvC b n) = (n == 0 || D.contains b) := by
  unfold cvC
  by_cases h : n = 0
  · rw [if_pos h, h]; rfl
  · rw [if_neg h, show (n == 0) = false from beq_false_of_ne h]; rfl
@[go_sem] theorem contains_cv : (cvD b n ++ D).contains t = ((t == b && !(n == 0)) || D.contains t) := by
  unfold cvD
  by_cases h : n = 0
  · rw [if_pos h, h]; simp
  · rw [if_neg h, show (n == 0) = false from beq_false_of_ne h]
    show (b :: D).contains t = _
    rw [List.contains_cons]; simp
@[go_sem] theorem lenOf_cv : (AV.one (cvC b n)).lenOf = some n := by
  unfold cvC
  by_cases h : n = 0
  · rw [if_pos h]; simp [h, AV.lenOf]
  · rw [if_neg h]; rfl
@[go_sem] theorem lenOk_cv {P : Program} {t : TypeId} : lenOk P t (.one (cvC b n)) = (isSliceD (tdesc P t) = true) := by
  unfold cvC
  by_cases h : n = 0
  · rw [if_pos h]; simp [lenOk, AV.lenOf]
  · rw [if_neg h]; simp [lenOk, AV.lenOf]
@[go_sem] theorem cellsOf_cv : (AV.one (cvC b n)).cellsOf = some [cvC b n] := rfl
@[go_sem] theorem jC_cv {b' : Nat} : jC b' (cvC b n) = if b = b' ∧ n ≠ 0 then .t .junk else cvC b n := by
  unfold cvC
  by_cases h : n = 0
  · rw [if_pos h, if_neg (fun h2 => h2.2 h)]; rfl
  · rw [if_neg h]
    show (if b = b' then C.t .junk else .vec b 1 0 n) = _
    by_cases e : b = b'
    · rw [if_pos e, if_pos ⟨e, h⟩]
    · rw [if_neg e, if_neg (fun h2 => e h2.1)]
end
/-- The block of a family. -/
theorem lookH_fam_at {α : Type} {b n i : Nat} {f : α → List T} {rows : Nat → List α} {h : List (Nat × List C)} (hi : i < n) : lookH (famE b f rows n ++ h) (b + i) = some (cellsL f (rows i)) := by
  rw [lookH_fam, if_pos ⟨by omega, by omega⟩, show b + i - b = i by omega]
/-! Heaps that are told by lists, as contracts' heaps. -/
theorem lookH_none : ∀ {l : List (Nat × List C)} {b : Nat}, b ∉ l.map (·.1) → lookH l b = none
  | [], _, _ => rfl
  | (k, v) :: l, b, h => by
    simp only [List.map_cons, List.mem_cons, not_or] at h
    unfold lookH
    rw [if_neg h.1]; exact lookH_none h.2
theorem lookH_dom {l : List (Nat × List C)} {b : Nat} : lookH l b = none ↔ b ∉ l.map (·.1) := by
  constructor
  · intro h hm
    obtain ⟨cs, hcs⟩ := lookH_mem hm
    rw [h] at hcs; cases hcs
  · exact lookH_none
theorem inC_of_refs {l : List (Nat × List C)} {c : C} (h : refsC (l.map (·.1)) c = true) : inC (lookH l) c := by
  have key : ∀ b, (l.map (·.1)).contains b = true → lookH l b ≠ none := fun b hb => by
    rw [Ne, lookH_dom]; exact fun h2 => h2 (List.contains_iff_mem.1 hb)
  cases c with
  | t x => trivial
  | ptr b o => exact key b h
  | vec b s o n => exact key b h
  | fn f caps => exact fun p hp => key _ (List.all_eq_true.1 h p hp)
theorem cl_of_refs {l : List (Nat × List C)} (h : refsH (l.map (·.1)) l = true) : ∀ b cs, lookH l b = some cs → ∀ c ∈ cs, inC (lookH l) c :=
  fun b cs hb c hc => inC_of_refs (refsH_look h b cs hb c hc)
theorem low_of {l : List (Nat × List C)} (h : ∀ k ∈ l.map (·.1), PIN ≤ k) (b : Nat) (hb : b < PIN) : lookH l b = none := by
  rw [lookH_dom]; intro hm; have := h b hm; omega
theorem accD_fn {α : Type} {b n : Nat} {g : Nat → α} : accD b (fnG n g) = cvD b n := by
  unfold cvD
  by_cases h : n = 0
  · subst h; rfl
  · rw [if_neg h]
    have := fnG_ne (g := g) h
    cases e : fnG n g with
    | nil => exact (this e).elim
    | cons _ _ => rfl
theorem isEmpty_fn {α : Type} {n : Nat} {g : Nat → α} : (fnG n g).isEmpty = (n == 0) := by
  by_cases h : n = 0
  · subst h; rfl
  · rw [show (n == 0) = false from beq_false_of_ne h]
    cases e : fnG n g with
    | nil => exact (fnG_ne h e).elim
    | cons _ _ => rfl
theorem xret1 {P : Program} {rr : ResultVar} {r : AV} {X : Heap} {e : Exit} {σ : St} (he : e = .normal ∨ e = .ret) (h1 : resOk P σ rr) (h2 : resA P σ rr = r) (h3 : ∀ b, PIN ≤ b → σ.H b = X b) : xretQ P [rr] r X e σ :=
  ⟨he, fun x hx => by obtain rfl := List.mem_singleton.1 hx; exact h1, h2, h3⟩
theorem xret0 {P : Program} {X : Heap} {e : Exit} {σ : St} (he : e = .normal ∨ e = .ret) (h3 : ∀ b, PIN ≤ b → σ.H b = X b) : xretQ P [] (.tup []) X e σ :=
  ⟨he, (fun x hx => by cases hx), rfl, h3⟩
theorem upd_hi {H X : Heap} {t : Nat} {x : Option (List C)} (ht : t < PIN) (h : ∀ b, PIN ≤ b → H b = X b) : ∀ b, PIN ≤ b → upd H t x b = X b := fun b hb => by
  rw [upd_at, if_neg (by omega)]; exact h b hb
end Go.Abs
namespace Go.Abs
open Go
/-! ### One block is named anew -/
def mvN (b b' : Nat) (x : Nat) : Nat := if x = b then b' else x
def St.mv (σ : St) (b b' : Nat) : St := ⟨σ.n, fun t => rnA (mvN b b') (σ.s t), fun x => if x = b' then (σ.H b).map (·.map (rnC (mvN b b'))) else if x = b then none else (σ.H x).map (·.map (rnC (mvN b b')))⟩
section
variable {σ : St} {b b' : Nat}
@[go_sem] theorem mv_n : (σ.mv b b').n = σ.n := rfl
@[go_sem] theorem mv_s {t : Nat} : (σ.mv b b').s t = rnA (mvN b b') (σ.s t) := rfl
@[go_sem] theorem mv_H {x : Nat} : (σ.mv b b').H x = if x = b' then (σ.H b).map (·.map (rnC (mvN b b'))) else if x = b then none else (σ.H x).map (·.map (rnC (mvN b b'))) := rfl
theorem gstep_mv (hb : σ.H b' = none) (hP : b' < PIN) (hne : b ≠ b') : GStep σ (σ.mv b b') := by
  refine gstep_ren (mvN b b') rfl (fun x y hx hy e => ?_) (fun x hx => ?_) (fun x cs hx => ?_) (fun x hx => ?_) (fun t => rfl)
  · have hx' : x ≠ b' := fun e => hx (e ▸ hb)
    have hy' : y ≠ b' := fun e => hy (e ▸ hb)
    unfold mvN at e
    split at e <;> split at e
    · omega
    · exact (hy' e.symm).elim
    · exact (hx' e).elim
    · exact e
  · unfold mvN at hx ⊢
    split at hx
    · omega
    · rename_i h; rw [if_neg h]
  · have hx' : x ≠ b' := fun e => by rw [e, hb] at hx; cases hx
    rw [mv_H]
    unfold mvN
    by_cases e : x = b
    · rw [if_pos e, if_pos rfl, ← e, hx]; rfl
    · rw [if_neg e, if_neg hx', if_neg e, hx]; rfl
  · rw [mv_H]
    by_cases e : x = b'
    · rw [if_pos e]
      cases hH : σ.H b with
      | none => rfl
      | some cs => exact (hx b (by rw [hH]; simp) (by unfold mvN; rw [if_pos rfl, e])).elim
    · rw [if_neg e]
      by_cases e2 : x = b
      · rw [if_pos e2]
      · rw [if_neg e2]
        cases hH : σ.H x with
        | none => rfl
        | some cs => exact (hx x (by rw [hH]; simp) (by unfold mvN; rw [if_neg e2])).elim
end
section
variable {α : Type} {φ : Nat → Nat} {b b' x sz len n : Nat} {xs : List α} {f : α → List T}
@[go_sem] theorem mvN_at : mvN b b' x = if x = b then b' else x := rfl
@[go_sem] theorem rnC_t {t : T} : rnC φ (.t t) = .t t := rfl
@[go_sem] theorem rnC_ptr {o : Nat} : rnC φ (.ptr x o) = .ptr (φ x) o := rfl
@[go_sem] theorem rnC_vec {o : Nat} : rnC φ (.vec x sz o n) = .vec (φ x) sz o n := rfl
@[go_sem] theorem rnC_acc : rnC φ (accC x sz xs) = accC (φ x) sz xs := by cases xs <;> rfl
@[go_sem] theorem rnC_cv : rnC φ (cvC x n) = cvC (φ x) n := by unfold cvC; split <;> rfl
@[go_sem] theorem rnC_cells : (cellsL f xs).map (rnC φ) = cellsL f xs := by unfold cellsL; rw [List.map_map]; rfl
@[go_sem] theorem rnA_one {c : C} : rnA φ (.one c) = .one (rnC φ c) := rfl
@[go_sem] theorem rnA_agg {cs : List C} : rnA φ (.agg cs) = .agg (cs.map (rnC φ)) := rfl
@[go_sem] theorem rnA_iptr {cs : List T} : rnA φ (.iptr cs) = .iptr cs := rfl
@[go_sem] theorem rnA_undef : rnA φ undefA = undefA := rfl
@[go_sem] theorem rnA_junk : rnA φ .junk = .junk := rfl
@[go_sem] theorem rnA_litI {k : IntKind} {i : Int} : rnA φ (litI k i) = litI k i := rfl
@[go_sem] theorem rnA_litB {v : Bool} : rnA φ (litB v) = litB v := rfl
@[go_sem] theorem accH_rn {o : Option (List C)} : (accH f xs o).map (fun cs => cs.map (rnC φ)) = accH f xs (o.map (fun cs => cs.map (rnC φ))) := by
  cases xs with
  | nil => rfl
  | cons y ys => show some ((cellsL f (y :: ys)).map (rnC φ)) = some (cellsL f (y :: ys)); rw [rnC_cells]
theorem rowsC_rn (h : ∀ i, i < n → φ (x + i) = x + i) : (rowsC x sz len n).map (rnC φ) = rowsC x sz len n := by
  unfold rowsC
  rw [List.map_map]
  exact List.map_congr_left fun i hi => by show C.vec (φ (x + i)) sz 0 len = _; rw [h i (List.mem_range.1 hi)]
end
/-! ### A cell is appended -/
theorem SR.junk2 {b : Nat} {ρ : Nat → Option Nat} {ok : Nat → Prop} {a : Act} {w : World} {σ : St} {cs : List C} (h : SR ρ ok (σ.withH (upd σ.H b (some cs))) a w) : SR ρ ok (σ.renew b cs) a w := by
  refine ⟨⟨fun b' cs' hb' => ?_, fun b' hb' => ?_, h.inj, h.okR⟩, h.size, fun t => ?_, h.defers, h.small⟩
  · simp only [renew_H] at hb'
    split at hb'
    · rename_i e
      cases hb'
      subst e
      exact h.heap b' cs (by show upd σ.H b' (some cs) b' = _; simp [upd])
    · rename_i e
      cases hσ : σ.H b' with
      | none => rw [hσ] at hb'; cases hb'
      | some cs0 =>
        rw [hσ] at hb'; cases hb'
        obtain ⟨c, arr, el, h1, h2, h3, h4⟩ := h.heap b' cs0 (by show upd σ.H b (some cs) b' = _; simp [upd, e, hσ])
        refine ⟨c, arr, el, h1, h2, by simpa using h3, fun j hj hj' => ?_⟩
        simp only [List.length_map] at hj
        rw [List.getElem_map]
        exact (h4 j hj hj').junked fun _ _ _ h => h
  · simp only [renew_H] at hb'
    split at hb'
    · cases hb'
    · rename_i e
      refine h.dom b' ?_
      show upd σ.H b (some cs) b' = none
      simp only [upd, e, if_false]
      cases hσ : σ.H b' with
      | none => rfl
      | some _ => rw [hσ] at hb'; cases hb'
  · exact (h.slots t).junked fun _ _ _ h => h
section
variable {P : Program} {m : Nat} {σ : St} {K : AV → St → Prop} {d : Option Nat} {ty : TypeId} {pos : String} {af : Array Edge} {g : Option (Nat × Bool)} {x y : Operand} {t t' : TypeId} {bytes : Nat}
theorem opA_app_cv (hty : AppTy P t t' 1 bytes) {b n dy : Nat} {cs : List C} {c : C} (hx : ev σ.s x = .one (cvC b n)) (hcs : σ.H b = if n = 0 then none else some cs) (hcl : cs.length = n) (hjc : cs.map (jC b) = cs) (hc : jC b c = c) (hy : ev σ.s y = .one (.vec dy 1 0 1)) (hyb : σ.H dy = some [c])
    (hb : (n + 1) * bytes ≤ 2 ^ 47) (hbp : b < PIN) (hdy : dy ≠ b) (hK : K (.one (cvC b (n + 1))) (σ.renew b (cs ++ [c]))) :
    OpA P m ⟨d, .call { callee := .builtin .append, args := #[x, y], argTypes := #[t, t'] }, ty, pos, af, g⟩ σ K := by
  obtain ⟨h1, h2, h3, h4, h5, h6, h7, h8, rfl, h10⟩ := hty
  have hyc : YC P σ y (tsize P (telem P t)) 1 [c] := by rw [h8]; exact YC.vec hy hyb rfl
  have e2 : (cvC b (n + 1)) = .vec b 1 0 (n + 1) := cvC_ne (by omega)
  rw [e2] at hK
  by_cases hn : n = 0
  · subst hn
    have hcs0 : cs = [] := List.length_eq_zero_iff.1 hcl
    subst hcs0
    rw [if_pos rfl] at hcs
    have := app_nilC (P := P) (σ := σ) (d := b) (o := ⟨d, .call { callee := .builtin .append, args := #[x, y], argTypes := #[t, t'] }, ty, pos, af, g⟩) rfl h1 h2 h3 h4 h5 h6 h7 h10 hx hyc (by decide) (by simpa using hb) hcs hbp
    rw [h8] at this
    refine opA_by0 (σ' := σ.renew b ([] ++ [c])) (fun ρ ok a w h => ?_) rfl hK
    obtain ⟨v, w', ρ', ok', k1, k2, k3, k4⟩ := this ρ ok a w h
    exact ⟨v, w', ρ', ok', k1, k2, SR.junk2 k3, k4⟩
  · rw [cvC_ne hn] at hx
    rw [if_neg hn] at hcs
    have := app_vecC (P := P) (σ := σ) (b := b) (n := n) (cs := cs) (o := ⟨d, .call { callee := .builtin .append, args := #[x, y], argTypes := #[t, t'] }, ty, pos, af, g⟩) rfl h1 h2 h3 h4 h5 h6 h7 h10 (by rw [h8]; exact hx) hcs (by rw [h8, hcl, Nat.mul_one]) hyc (by simpa using hb) hbp
    rw [h8, hjc, List.map_cons, List.map_nil, hc] at this
    exact opA_by0 this rfl hK
end
end Go.Abs
namespace Go.Abs
open Go
section
variable {P : Program}
theorem pureAt_nilCheck {o : Oper} {σ : St} {x : Operand} (ho : o.op = .nilCheck x) (h1 : isAddr (ev σ.s x) = true) : PureAt P o σ (ev σ.s x) := by
  intro ρ ok a w h
  have hax := RA_ev h x
  refine ⟨a.eval x, fun w' => ?_, hax⟩
  simp only [execOp, ho]
  generalize ev σ.s x = y at *
  generalize a.eval x = v at *
  unfold isAddr at h1
  split at h1
  · cases hax with | one hax => cases hax; rfl
  all_goals first | (cases h1; done) | (cases hax with | iptr h => first | rfl | (cases h <;> rfl) | (cases h with | _ h => first | rfl | (cases h; rfl)))
theorem pureAt_fieldAddr {o : Oper} {σ : St} {t : TypeId} {x : Operand} {f : Nat} (ho : o.op = .fieldAddr t x f) (h1 : tok P t = true) (h2 : isStructD (tdesc P t) = true) (h3 : f < nfields P t) (h4 : tok P (fty P t f) = true)
    (h5 : 0 < tsize P (fty P t f)) (h6 : isAddr (ev σ.s x) = true) : PureAt P o σ (shiftA (ev σ.s x) (foff P t f)) := by
  intro ρ ok a w h
  obtain ⟨fs, fd, d1, d2, d3, d4⟩ := fields_of h2 h3
  obtain ⟨c, off, e1, e2⟩ := addr_shift (RA_ev h x) h6 (foff P t f)
  refine ⟨_, fun w' => ?_, e2⟩
  simp only [execOp, ho, e1]
  refine v_run ?_
  unfold Instr.fieldAt
  rw [Sem.run_bind, run_underlying h1, d1]
  simp only [Result.andThen, d2]
  rw [Sem.run_bind]
  simp only [Instr.sureAddr, Sem.run_pure, Result.andThen]
  rw [Sem.run_bind]
  unfold fieldPlace
  rw [d4] at h4 h5
  rw [Sem.run_bind, run_sizeOf h4]
  simp only [Result.andThen]
  rw [if_neg (by omega)]
  simp [add_none, d3]
def closedB (ops : Array Oper) (listed : Array Bool) : Bool := (List.range ops.size).all fun j => !(listed.getD j false) || match ops[j]? with | some o => o.after.toList.all fun e => !(Region.binds .any e) || listed.getD e.on false | none => true
theorem closedB_ok {ops : Array Oper} {listed : Array Bool} (h : closedB ops listed = true) : Closed ops listed := by
  intro j o ho hl e he hb
  unfold closedB at h
  rw [List.all_eq_true] at h
  have hj : j < ops.size := by
    rcases Nat.lt_or_ge j ops.size with h | h
    · exact h
    · simp [h] at ho
  have h1 := h j (List.mem_range.2 hj)
  rw [hl, ho] at h1
  simp only [Bool.not_true, Bool.false_or] at h1
  have h2 := List.all_eq_true.1 h1 e (by simpa using he)
  rw [hb] at h2
  simpa using h2
/-- The rest by the list's order. -/
theorem AnyS.ord {ops : Array Oper} {q : St → Prop} {fuel : Nat} {listed : Array Bool} {σ : St} (tk : List Nat) (m : Nat) (l : List Nat) (hord : ordOkT tk m [] ops = true)
    (hl : (List.range ops.size).filter (fun i => !listed.getD i true) = l) (htk : l.all (fun i => !tk.contains i) = true) (hc : closedB ops listed = true) (hsz : listed.size = ops.size) (hf : l.length ≤ fuel)
    (h : runOps P m ops.toList q (opsAt ops l) σ) : AnyS P ops q fuel listed σ := by
  intro ρ ok a w hs Q' _ hn
  subst hl
  refine any_sound hord fuel _ listed σ ρ ok a w (List.Pairwise.filter _ List.pairwise_lt_range) (fun i => ?_) (fun i hi => ?_) (closedB_ok hc) hsz hf hs (fun _ hp => absurd hp (by simp)) h hn
  · simp [List.mem_filter]
  · have := List.all_eq_true.1 htk i hi
    simpa using this
theorem regA_any {l : List Oper} {q : St → Prop} {σ : St} (n : Nat) (hn : l.length = n) (h : AnyS P l.toArray q n (Array.replicate n false) σ) : RegA P l.toArray q σ := .inr (by subst hn; simpa using h)
theorem jC_cells {α : Type} {f : α → List T} {xs : List α} {b : Nat} : (cellsL f xs).map (jC b) = cellsL f xs := by unfold cellsL; rw [List.map_map]; rfl
@[go_sem] theorem accH_jC {α : Type} {f : α → List T} {xs : List α} {o : Option (List C)} {b : Nat} : (accH f xs o).map (fun cs => cs.map (jC b)) = accH f xs (o.map (fun cs => cs.map (jC b))) := by
  cases xs with
  | nil => rfl
  | cons x xs => simp only [accH, Option.map_some, cellsL, List.map_map]; rfl
end
end Go.Abs
