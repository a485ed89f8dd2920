/- At every input the call answers true and leaves its arguments as they were; no conditions. -/
import Derived.Test.YtgnfgaioeldagaaGreatMb
import Derived.Laws.Append
set_option linter.unusedSimpArgs false
set_option linter.unusedVariables false
namespace Go.Abs
open Go

/-! ### Typed sequences -/
/-- A slice of values of one kind, that nobody writes any more. -/
def eL {α : Type} (f : α → List T) (xs : List α) : T := .seq none (xs.map f)
/-- The cells of element i. -/
def elemD {α : Type} (f : α → List T) (xs : List α) (i : Nat) : List T := (xs.map f).getD i []

section
variable {P : Program} {α : Type} {f : α → List T} {xs : List α}
@[go_sem] theorem lenOf_eL : (AV.one (.t (eL f xs))).lenOf = some xs.length := by simp [eL, AV.lenOf]
@[go_sem] theorem lenOk_eL {t : TypeId} : lenOk P t (.one (.t (eL f xs))) = (isSliceD (tdesc P t) = true) := by simp [eL, lenOk, AV.lenOf]
@[go_sem] theorem elemA_eL {sz i : Nat} : elemA sz (.one (.t (eL f xs))) i = .iptr (elemD f xs i) := rfl
@[go_sem] theorem elemOk_eL {sz i : Nat} : elemOk sz (.one (.t (eL f xs))) i = ∀ x ∈ xs, (f x).length = sz := by simp [eL, elemOk]
@[go_sem] theorem lenIn_eL {i : AV} : lenIn (.one (.t (eL f xs))) i = inRange i xs.length := by simp [eL, lenIn, AV.lenOf]
@[go_sem] theorem sliceV_eL {sz lo hi : Nat} : sliceV sz (.one (.t (eL f xs))) lo hi = .one (.t (eL f ((xs.take hi).drop lo))) := by simp [eL, sliceV, List.map_drop, List.map_take]
@[go_sem] theorem sliceOk_eL {sz : Nat} : sliceOk sz (.one (.t (eL f xs))) = ∀ x ∈ xs, (f x).length = sz := by simp [eL, sliceOk]
@[go_sem] theorem sliceTy_eL {t : TypeId} : sliceTy P t (.one (.t (eL f xs))) = (isSliceD (tdesc P t) = true ∧ tok P (telem P t) = true ∧ ∀ x ∈ xs, (f x).length = tsize P (telem P t)) := by simp [eL, sliceTy, sliceOk]
@[go_sem] theorem slOk_eL {l h n : Nat} : slOk (.one (.t (eL f xs))) (some l) (some h) n = (l ≤ h ∧ h ≤ n) := by simp [eL, slOk]
@[go_sem] theorem binOk_eL {op : BinOp} : binOk op (.one (.t (eL f xs))) = True := rfl
@[go_sem] theorem binTy_eL {t : TypeId} : binTy P t (.one (.t (eL f xs))) = (tok P t = true ∧ isSliceD (tdesc P t) = true) := rfl
theorem elemD_lt {i : Nat} (h : i < xs.length) : elemD f xs i = f xs[i] := by simp [elemD, h]
@[go_sem] theorem isAddr_one_t {x : T} : isAddr (.one (.t x)) = false := rfl
theorem fz_seq {H : Heap} {nl : Option Bool} {ys : List (List T)} (h : ys = xs.map f) : FzA H (.one (.t (.seq nl ys))) (.one (eL f xs)) := by subst h; exact .one .weak
theorem fz_eL {H : Heap} : FzA H (.one (.t (eL f xs))) (.one (eL f xs)) := .one .t
end

@[go_sem] theorem castZ : ((0 : Nat) : Int) = 0 := rfl
@[go_sem] theorem castS {n : Nat} : ((n + 1 : Nat) : Int) = (n : Int) + 1 := by omega
@[go_sem] theorem castL {n : Nat} : ((OfNat.ofNat n : Nat) : Int) = OfNat.ofNat n := rfl
attribute [go_sem] Int.toNat_natCast Int.ofNat_eq_natCast

/-! ### Numbers that stay in their kind -/
theorem wrap_i64 {n : Int} (h : -9223372036854775808 ≤ n) (h' : n ≤ 9223372036854775807) : IntKind.i64.wrap n = n := IntWalk.i64_in _ ⟨h, h'⟩
theorem wrap_u64 {n : Int} (h : 0 ≤ n) (h' : n < 18446744073709551616) : IntKind.u64.wrap n = n := by
  simp [IntKind.wrap, IntKind.bits, IntKind.signed]; omega
theorem wrap_u32 {n : Int} (h : 0 ≤ n) (h' : n < 4294967296) : IntKind.u32.wrap n = n := by
  simp [IntKind.wrap, IntKind.bits, IntKind.signed]; omega

end Go.Abs
namespace Go.Abs
open Go

/-! ### append -/
def jC (b : Nat) : C → C
  | .ptr b' o => if b' = b then .t .junk else .ptr b' o
  | .vec b' s o n => if b' = b then .t .junk else .vec b' s o n
  | .fn f caps => if caps.any (fun p => p.1 == b) then .t .junk else .fn f caps
  | .t x => .t x
def jA (b : Nat) : AV → AV
  | .one c => .one (jC b c)
  | .agg cs => .agg (cs.map (jC b))
  | .iptr cs => .iptr cs
  | .tup [] => .tup []
  | _ => .junk
/-- Block b holds 'new' from now on; nothing else speaks of it any more. -/
def St.renew (σ : St) (b : Nat) (new : List C) : St := ⟨σ.n, fun t => jA b (σ.s t), fun n => if n = b then some new else (σ.H n).map (·.map (jC b))⟩
@[go_sem] theorem renew_n {σ : St} {b : Nat} {new : List C} : (σ.renew b new).n = σ.n := rfl
@[go_sem] theorem renew_s {σ : St} {b t : Nat} {new : List C} : (σ.renew b new).s t = jA b (σ.s t) := rfl
@[go_sem] theorem renew_H {σ : St} {b n : Nat} {new : List C} : (σ.renew b new).H n = if n = b then some new else (σ.H n).map (·.map (jC b)) := rfl
@[go_sem] theorem jA_one {b : Nat} {c : C} : jA b (.one c) = .one (jC b c) := rfl
@[go_sem] theorem jA_agg {b : Nat} {cs : List C} : jA b (.agg cs) = .agg (cs.map (jC b)) := rfl
@[go_sem] theorem jA_iptr {b : Nat} {cs : List T} : jA b (.iptr cs) = .iptr cs := rfl
@[go_sem] theorem jA_junk {b : Nat} : jA b .junk = .junk := rfl
@[go_sem] theorem jA_undef {b : Nat} : jA b undefA = undefA := rfl
@[go_sem] theorem jA_litI {b : Nat} {k : IntKind} {n : Int} : jA b (litI k n) = litI k n := rfl
@[go_sem] theorem jA_litB {b : Nat} {x : Bool} : jA b (litB x) = litB x := rfl
@[go_sem] theorem jC_t {b : Nat} {x : T} : jC b (.t x) = .t x := rfl
@[go_sem] theorem jC_ptr {b b' o : Nat} : jC b (.ptr b' o) = if b' = b then .t .junk else .ptr b' o := rfl
@[go_sem] theorem jC_vec {b b' s o n : Nat} : jC b (.vec b' s o n) = if b' = b then .t .junk else .vec b' s o n := rfl

theorem RC.junked {w : World} {ok : Nat → Prop} {ρ ρ' : Nat → Option Nat} {b : Nat} {c : C} {v : Value} (h : RC w ok ρ c v) (hρ : ∀ b' n, b' ≠ b → ρ b' = some n → ρ' b' = some n) : RC w ok ρ' (jC b c) v := by
  have hone := h.oneCell
  cases h with
  | t h => exact .t h
  | ptr h =>
    simp only [jC]
    split
    · exact .t (.junk hone)
    · exact .ptr (hρ _ _ ‹_› h)
  | vec h h1 h2 h3 =>
    simp only [jC]
    split
    · exact .t (.junk hone)
    · exact .vec (hρ _ _ ‹_› h) h1 h2 h3
  | fn h h1 =>
    simp only [jC]
    split
    · exact .t (.junk hone)
    · rename_i hn
      refine .fn h fun i hi hi' => ?_
      obtain ⟨c, h2, h3⟩ := h1 i hi hi'
      refine ⟨c, hρ _ _ ?_ h2, h3⟩
      intro e
      exact hn (List.any_eq_true.2 ⟨_, List.getElem_mem hi, by simp [e]⟩)

theorem RA.junked {w : World} {ok : Nat → Prop} {ρ ρ' : Nat → Option Nat} {b : Nat} {x : AV} {v : Value} (h : RA w ok ρ x v) (hρ : ∀ b' n, b' ≠ b → ρ b' = some n → ρ' b' = some n) : RA w ok ρ' (jA b x) v := by
  cases h with
  | one h => exact .one (h.junked hρ)
  | agg h h1 => exact .agg (by simpa using h) fun j hj hj' => by simp only [List.getElem_map]; exact (h1 j (by simpa using hj) hj').junked hρ
  | iptr h1 h2 h3 => exact .iptr h1 h2 h3
  | @tup xs vs h h1 =>
    cases xs with
    | nil => exact .tup h fun j hj => by simp at hj
    | cons _ _ => exact .junk
  | junk => exact .junk

section
variable {P : Program} {ρ : Nat → Option Nat} {ok : Nat → Prop} {σ : St} {a : Act} {w w₀ : World}

theorem cell_heap {w w' : World} (h : w'.heap = w.heap) (a : Addr) : w'.cell? a = w.cell? a := by simp only [World.cell?, h]

theorem RA_heap {w w' : World} (h : w'.heap = w.heap) {x : AV} {v : Value} (hx : RA w ok ρ x v) : RA w' ok ρ x v :=
  hx.mono (fun n _ => by rw [h]) (fun _ h => h) (fun n el k hs => by simpa [World.shape?, h] using hs) (fun _ _ h => h)

theorem flatten_length {sz : Nat} : ∀ {l : List (List T)}, (∀ x ∈ l, x.length = sz) → l.flatten.length = l.length * sz
  | [], _ => by simp
  | x :: l, h => by simp [-List.length_flatten, flatten_length (l := l) fun y hy => h y (by simp [hy]), h x (by simp), Nat.succ_mul]; omega

theorem flatten_get {sz : Nat} (hs0 : 0 < sz) : ∀ {l : List (List T)}, (∀ x ∈ l, x.length = sz) → ∀ j (hj : j < l.flatten.length), ∃ (hi : j / sz < l.length) (hk : j % sz < l[j / sz].length), l.flatten[j] = l[j / sz][j % sz]
  | [], _, j, hj => by simp at hj
  | x :: l, hl, j, hj => by
    have hxl := hl x (by simp)
    by_cases hjx : j < sz
    · have e1 : j / sz = 0 := Nat.div_eq_of_lt hjx
      have e2 : j % sz = j := Nat.mod_eq_of_lt hjx
      refine ⟨by simp [e1], by simp [e1, e2, hxl, hjx], ?_⟩
      simp only [List.flatten_cons, e1, e2, List.getElem_cons_zero]
      rw [List.getElem_append_left (by omega)]
    · have e1 : j / sz = (j - sz) / sz + 1 := by rw [Nat.div_eq_sub_div hs0 (by omega)]
      have e2 : j % sz = (j - sz) % sz := Nat.mod_eq_sub_mod (by omega)
      obtain ⟨h1, h2, h3⟩ := flatten_get hs0 (l := l) (fun y hy => hl y (by simp [hy])) (j - sz) (by have := hj; simp only [List.flatten_cons, List.length_append, hxl] at this; omega)
      refine ⟨by simp [e1]; exact h1, by simp only [e1, e2, List.getElem_cons_succ]; exact h2, ?_⟩
      simp only [List.flatten_cons, e1, e2, List.getElem_cons_succ]
      rw [List.getElem_append_right (by omega)]
      simp only [hxl]
      exact h3

/-- The cells of a sequence, read. -/
theorem seq_cells {nl : Option Bool} {xs : List (List T)} {v : Value} (h : RA w ok ρ (.one (.t (.seq nl xs))) v) {sz : Nat} (hsz : ∀ x ∈ xs, x.length = sz) :
    ∃ A c, ∃ vs : Array Value, v = .slice A xs.length c ∧ (∀ w', w'.heap = w.heap → (Builtin.firstCells sz xs.length v).run P w' = .ok vs w') ∧ vs.size = xs.flatten.length ∧ ∀ j (hj : j < xs.flatten.length) (hj' : j < vs.size), RT w ok xs.flatten[j] vs[j] := by
  obtain ⟨A, c, sz', blk, off, u, rfl, g2, g0, g3, g4, g5, g6, g7, g8⟩ := h.seq_inv2
  by_cases hx : xs.length * sz = 0
  · have hfl : xs.flatten.length = 0 := by rw [flatten_length hsz]; exact hx
    refine ⟨A, c, #[], rfl, fun w' _ => ?_, by rw [hfl]; rfl, fun j hj => by omega⟩
    cases A with
    | none => rfl
    | some ad =>
      unfold Builtin.firstCells
      simp only [hx]
      rfl
  · have hxs : xs ≠ [] := by rintro rfl; simp at hx
    have hs0 : 0 < sz := Nat.pos_of_ne_zero fun e => hx (by rw [e, Nat.mul_zero])
    obtain ⟨k1, k2⟩ := g6 hxs
    have hszz : sz' = sz := by
      cases xs with
      | nil => exact absurd rfl hxs
      | cons y ys => rw [← g5 y (by simp), ← hsz y (by simp)]
    subst hszz
    subst k1
    refine ⟨_, c, ((List.range (xs.length * sz')).map fun j => u (j / sz') (j % sz')).toArray, rfl, fun w' hw' => ?_, by simp [-List.length_flatten, flatten_length hsz], fun j hj hj' => ?_⟩
    · unfold Builtin.firstCells
      simp only []
      refine loadCells_run _ fun j hj => ?_
      obtain ⟨h1, h2, h3⟩ := flatten_get hs0 hsz j (by rw [flatten_length hsz]; exact hj)
      have := g7 _ h1 _ h2
      rw [show j / sz' * sz' + j % sz' = j by rw [Nat.mul_comm]; exact Nat.div_add_mod j sz'] at this
      rw [cell_heap hw']; exact this
    · simp only [List.getElem_toArray, List.getElem_map, List.getElem_range]
      obtain ⟨h1, h2, h3⟩ := flatten_get hs0 hsz j hj
      rw [h3]
      exact g8 _ h1 _ h2

theorem choose_run {q : Question} (hq : q.forced = false) : (choose q).run P w = .ok (q.cut (w.tape w.drawn q)) { w with drawn := w.drawn + 1 } := by
  simp [choose, Sem.run, hq]

theorem execOp_append {o : Oper} {x y : Operand} {t t' : TypeId} (ho : o.op = .call { callee := .builtin .append, args := #[x, y], argTypes := #[t, t'] }) {v : Value} {w' : World}
    (h : (Builtin.append_ #[t, t'] o.type #[a.eval x, a.eval y]).run P w = .ok v w') : (execOp a.eval o).run P w = .ok (.value v) w' := by
  simp only [execOp, ho, resolve, Sem.run_bind, Sem.run_pure, Result.andThen, List.map_toArray, List.map_cons, List.map_nil]
  unfold invoke builtin
  simp only []
  exact v_run h


theorem append_in {t t' ty : TypeId} {A' : Option Addr} {c0 off n c n' c' : Nat} (h1 : tok P t = true) (h2 : isSliceD (tdesc P t) = true) (h3 : tok P (telem P t) = true) (h4 : tok P t' = true) (h5 : isSliceD (tdesc P t') = true)
    (hc : n + n' ≤ c) {new : Array Value} (hnew : (Builtin.firstCells (tsize P (telem P t)) n' (.slice A' n' c')).run P w = .ok new w) {w' : World} (hst : (storeCells ⟨c0, off + n * tsize P (telem P t), none⟩ new.toList 0).run P w = .ok () w') :
    (Builtin.append_ #[t, t'] ty #[.slice (some ⟨c0, off, none⟩) n c, .slice A' n' c']).run P w = .ok (.slice (some ⟨c0, off, none⟩) (n + n') c) w' := by
  unfold Builtin.append_
  simp only [List.getElem?_toArray, List.getElem?_cons_zero, List.getElem?_cons_succ]
  rw [Sem.run_bind, run_underlying h1, slice_of h2]
  simp only [Result.andThen]
  rw [Sem.run_bind, run_sizeOf h3]
  simp only [Result.andThen]
  rw [Sem.run_bind, run_underlying h4, slice_of h5]
  simp only [Result.andThen]
  rw [Sem.run_bind]
  simp only [Result.andThen, Sem.run_pure, Bool.false_eq_true, if_false, Builtin.lenOf]
  rw [Sem.run_bind]
  simp only [Sem.run_pure, Result.andThen, Bool.not_false, if_true]
  rw [if_pos hc, Sem.run_bind, hnew]
  simp only [Result.andThen]
  rw [Sem.run_bind, add_none, hst]
  rfl

theorem append_out {t t' ty : TypeId} {A A' : Option Addr} {n c n' c' : Nat} (h1 : tok P t = true) (h2 : isSliceD (tdesc P t) = true) (h3 : tok P (telem P t) = true) (h4 : tok P t' = true) (h5 : isSliceD (tdesc P t') = true)
    (hc : c < n + n') (hb : (n + n') * tbytes P (telem P t) ≤ 2 ^ 47) (hb0 : 0 < tbytes P (telem P t)) {z : Value} (hz : (P.info? (telem P t)).bind (·.zero) = some z) {old new : Array Value} (hold : ∀ w, w.heap = w₀.heap → (Builtin.firstCells (tsize P (telem P t)) n (.slice A n c)).run P w = .ok old w)
    (hnew : ∀ w, w.heap = w₀.heap → (Builtin.firstCells (tsize P (telem P t)) n' (.slice A' n' c')).run P w = .ok new w) (hw : w.heap = w₀.heap) :
    ∃ (k : Nat) (rest : Array Value), n + n' ≤ k ∧ rest.size = (k - (n + n')) * z.cells.size ∧ (Builtin.append_ #[t, t'] ty #[.slice A n c, .slice A' n' c']).run P w =
      .ok (.slice (some ⟨w.heap.size, 0, none⟩) (n + n') k) { w with heap := w.heap.push (.cells (old ++ new ++ rest) (telem P t)), drawn := w.drawn + 1 } := by
  refine ⟨(Question.appendCap (n + n') c (telem P t)).cut (w.tape w.drawn (Question.appendCap (n + n') c (telem P t))), Builtin.zeroCells z.cells ((Question.appendCap (n + n') c (telem P t)).cut (w.tape w.drawn (Question.appendCap (n + n') c (telem P t))) - (n + n')), ?_, by simp [Builtin.zeroCells], ?_⟩
  · simp only [Question.cut]; omega
  · generalize hk : (Question.appendCap (n + n') c (telem P t)).cut (w.tape w.drawn (Question.appendCap (n + n') c (telem P t))) = k
    obtain ⟨i, hi, hti⟩ := run_typeInfo (w := w) h3
    have hbi : tbytes P (telem P t) = i.bytes := by simp [tbytes, hi]
    unfold Builtin.append_
    simp only [List.getElem?_toArray, List.getElem?_cons_zero, List.getElem?_cons_succ]
    rw [Sem.run_bind, run_underlying h1, slice_of h2]
    simp only [Result.andThen]
    rw [Sem.run_bind, run_sizeOf h3]
    simp only [Result.andThen]
    rw [Sem.run_bind, run_underlying h4, slice_of h5]
    simp only [Result.andThen]
    rw [Sem.run_bind]
    simp only [Result.andThen, Sem.run_pure, Bool.false_eq_true, if_false, Builtin.lenOf]
    rw [Sem.run_bind]
    simp only [Sem.run_pure, Result.andThen, Bool.not_false, if_true, false_or]
    rw [if_neg (by omega), Sem.run_bind, hti]
    simp only [Result.andThen]
    rw [if_neg (by rw [← hbi]; intro h; omega), Sem.run_bind, hti]
    simp only [Result.andThen]
    rw [if_neg (by rw [← hbi]; have := growslice_fits hc (by simpa using hb); simp at this ⊢; omega), Sem.run_bind, choose_run rfl, hk]
    simp only [Result.andThen]
    obtain ⟨i', hi', hti'⟩ := run_typeInfo (P := P) (w := { w with drawn := w.drawn + 1 }) h3
    rw [Sem.run_bind, hti']
    simp only [Result.andThen]
    have hroom : ∀ b : Nat, (askRoom b).run P { w with drawn := w.drawn + 1 } = .ok () { w with drawn := w.drawn + 1 } := fun b => by unfold askRoom; split <;> rfl
    rw [Sem.run_bind, hroom]
    simp only [Result.andThen]
    rw [Sem.run_bind, hold { w with drawn := w.drawn + 1 } hw]
    simp only [Result.andThen]
    rw [Sem.run_bind, hnew { w with drawn := w.drawn + 1 } hw]
    simp only [Result.andThen]
    rw [Sem.run_bind, run_zeroValue h3 hz]
    simp only [Result.andThen, newRow, newObj]
    rfl


/-- append to a nil slice, of some cells. -/
theorem app_nil {o : Oper} {d : Nat} {x y : Operand} {t t' : TypeId} (ho : o.op = .call { callee := .builtin .append, args := #[x, y], argTypes := #[t, t'] }) (h1 : tok P t = true) (h2 : isSliceD (tdesc P t) = true) (h3 : tok P (telem P t) = true) (h4 : tok P t' = true)
    (h5 : isSliceD (tdesc P t') = true) (hz : (tzero P (telem P t)).isSome = true) (hzl : ((tzero P (telem P t)).getD []).length = tsize P (telem P t)) (hb0 : 0 < tbytes P (telem P t)) {nl : Option Bool} {ys : List (List T)} (hx : ev σ.s x = .one (.t (.seq (some true) []))) (hy : ev σ.s y = .one (.t (.seq nl ys))) (hsz : ∀ z ∈ ys, z.length = tsize P (telem P t))
    (hne : ys ≠ []) (hb : ys.length * tbytes P (telem P t) ≤ 2 ^ 47) (hd : σ.H d = none) (hdp : d < PIN) : OStep P o σ (.one (.vec d (tsize P (telem P t)) 0 ys.length)) (σ.withH (upd σ.H d (some (ys.flatten.map .t)))) := by
  intro ρ ok a w h
  obtain ⟨z, hz⟩ := Option.isSome_iff_exists.1 hz
  rw [hz] at hzl
  simp only [Option.getD_some] at hzl
  obtain ⟨zv, hz1, hz2⟩ := litCs_tzero hz
  have hzs : zv.cells.size = tsize P (telem P t) := by
    have := (RCs_litCs (w := w) (ok := ok) (ρ := ρ) hz2).1
    rw [← hzl, this]; simp
  have hax := RA_ev h x
  have hay := RA_ev h y
  rw [hx] at hax
  rw [hy] at hay
  obtain ⟨A, c, hvx, g2, g0, g3⟩ : ∃ A c, a.eval x = .slice A 0 c ∧ 0 ≤ c ∧ (A = none → c = 0) ∧ A = none := by
    generalize a.eval x = v at hax
    obtain ⟨A, c, sz, blk, off, u, rfl, k2, k0, k3, _⟩ := hax.seq_inv2
    exact ⟨A, c, rfl, k2, k0, k3 rfl⟩
  subst g3
  obtain rfl := g0 rfl
  have hpos : 0 < ys.length := List.length_pos_iff.2 hne
  obtain ⟨A', c', vs, hvy, hvs1, hvs2, hvs3⟩ := seq_cells (P := P) hay hsz
  have hfl := flatten_length hsz
  rw [hvy] at hvs1
  obtain ⟨k, rest, hk, hrest, hrun⟩ := append_out (P := P) (w := w) (w₀ := w) (ty := o.type) (A := none) (A' := A') (n := 0) (c := 0) (n' := ys.length) (c' := c') h1 h2 h3 h4 h5 (by omega) (by simpa using hb) hb0 hz1 (old := #[]) (fun w' _ => rfl) hvs1 rfl
  rw [Nat.zero_add] at hk hrest hrun
  obtain ⟨s1, s2⟩ := h.push (d := d) hdp hd (cs := ys.flatten.map .t) (arr := #[] ++ vs ++ rest) (el := telem P t) (by rw [List.length_map]; simp only [Array.empty_append, Array.size_append]; omega) (fun j hj hj' => by
    simp only [List.length_map] at hj
    simp only [List.getElem_map, Array.empty_append]
    rw [Array.getElem_append_left (by omega)]
    exact .t (hvs3 j hj (by omega)))
  obtain ⟨r1, r2⟩ := s1.drawn
  refine ⟨.slice (some ⟨w.heap.size, 0, none⟩) ys.length k, _, _, _, execOp_append ho (by rw [hvx, hvy]; exact hrun), ?_, r1, s2.trans r2⟩
  refine .one (.vec (c := w.heap.size) (n := (#[] ++ vs ++ rest).size) (by simp [ext]) hk ⟨telem P t, by simp [World.shape?]⟩ ?_)
  simp only [Array.empty_append, Array.size_append, Nat.zero_add]
  rw [hrest, hvs2, hfl, hzs, ← Nat.add_mul]
  exact Nat.mul_le_mul_right _ (by omega)

/-- append to a slice of the walk's own, that is its block whole. -/
theorem app_vec {o : Oper} {b n : Nat} {x y : Operand} {t t' : TypeId} (ho : o.op = .call { callee := .builtin .append, args := #[x, y], argTypes := #[t, t'] }) (h1 : tok P t = true) (h2 : isSliceD (tdesc P t) = true) (h3 : tok P (telem P t) = true) (h4 : tok P t' = true)
    (h5 : isSliceD (tdesc P t') = true) (hz : (tzero P (telem P t)).isSome = true) (hzl : ((tzero P (telem P t)).getD []).length = tsize P (telem P t)) (hb0 : 0 < tbytes P (telem P t)) {nl : Option Bool} {ys : List (List T)} {cs : List C} (hx : ev σ.s x = .one (.vec b (tsize P (telem P t)) 0 n)) (hcs : σ.H b = some cs)
    (hn : cs.length = n * tsize P (telem P t)) (hy : ev σ.s y = .one (.t (.seq nl ys))) (hsz : ∀ z ∈ ys, z.length = tsize P (telem P t))
    (hb : (n + ys.length) * tbytes P (telem P t) ≤ 2 ^ 47) (hbp : b < PIN) : OStep P o σ (.one (.vec b (tsize P (telem P t)) 0 (n + ys.length))) (σ.renew b (cs.map (jC b) ++ ys.flatten.map .t)) := by
  intro ρ ok a w h
  obtain ⟨z, hz⟩ := Option.isSome_iff_exists.1 hz
  rw [hz] at hzl
  simp only [Option.getD_some] at hzl
  obtain ⟨zv, hz1, hz2⟩ := litCs_tzero hz
  have hzs : zv.cells.size = tsize P (telem P t) := by
    have := (RCs_litCs (w := w) (ok := ok) (ρ := ρ) hz2).1
    rw [← hzl, this]; simp
  have hax := RA_ev h x
  have hay := RA_ev h y
  rw [hx] at hax
  rw [hy] at hay
  obtain ⟨c, cap, n0, hρb, hvx, k2, k3, k4⟩ := hax.vec_inv
  obtain ⟨A', c', vs, hvy, hvs1, hvs2, hvs3⟩ := seq_cells (P := P) hay hsz
  have hfl := flatten_length hsz
  rw [hvy] at hvs1
  obtain ⟨cb, arr, el, e1, e2, e3, e4⟩ := h.heap b cs hcs
  rw [hρb] at e1; cases e1
  have hn0 : n0 = arr.size := by
    obtain ⟨el', hs⟩ := k3
    simp [World.shape?, e2] at hs
    exact hs.2.symm
  subst hn0
  by_cases hcap : n + ys.length ≤ cap
  · -- there is room
    have hroom : n * tsize P (telem P t) + ys.length * tsize P (telem P t) ≤ arr.size := by
      have : (n + ys.length) * tsize P (telem P t) ≤ cap * tsize P (telem P t) := Nat.mul_le_mul_right _ hcap
      rw [Nat.add_mul] at this; omega
    have hone : ∀ v ∈ vs.toList, oneC v = true := fun v hv => by
      obtain ⟨j, hj, rfl⟩ := List.mem_iff_getElem.1 hv
      have hj2 : j < vs.size := by simpa using hj
      have := (hvs3 j (by omega) hj2).oneCell
      simpa using this
    obtain ⟨w', arr', r1, r2, r3, r4, r5, r6, r7⟩ := storeCells_run (P := P) (c := c) (off := n * tsize P (telem P t)) vs.toList 0 w arr e2 hone (by simp; omega)
    have hk : Keeps ok w w' := fun m hm => r3 m (fun e => (h.okR m hm).2 b (e ▸ hρb))
    have hs : ∀ m el k, w.shape? m = some (el, k) → w'.shape? m = some (el, k) := fun m el' k hsn => by
      by_cases hm : m = c
      · subst hm; simp [World.shape?, e2] at hsn; simp [World.shape?, r4, r5, hsn]
      · simpa [World.shape?, r3 m hm] using hsn
    have hin := append_in (P := P) (w := w) (w' := w') (t := t) (t' := t') (ty := o.type) (A' := A') (c0 := c) (off := 0) (n := n) (c := cap) (n' := ys.length) (c' := c') h1 h2 h3 h4 h5 hcap (hvs1 w rfl) (by rw [Nat.zero_add]; exact r1)
    refine ⟨.slice (some ⟨c, 0, none⟩) (n + ys.length) cap, w', ρ, ok, execOp_append ho (by rw [hvx, hvy]; exact hin), .one (.vec hρb hcap (hs _ _ _ (by simp [World.shape?, e2]; rfl) |> fun h => ⟨_, h⟩) k4), ⟨⟨fun b' cs' hb' => ?_, fun b' hb' => ?_, h.inj, fun m hm => ⟨by rw [r2]; exact (h.okR m hm).1, (h.okR m hm).2⟩⟩, h.size, fun t' => ?_, h.defers, h.small⟩, ⟨by omega, fun m hm hb' => r3 m (fun e => hb' b (e ▸ hρb)), hs, fun b' m hb' => .inl ⟨b', hb'⟩, fun _ h => h, fun _ h => .inl h, fun _ _ => .inl rfl, r7⟩⟩
    · simp only [renew_H] at hb'
      split at hb'
      · subst b'; cases hb'
        refine ⟨c, arr', el, hρb, r4, by simp only [List.length_append, List.length_map]; omega, fun j hj hj' => ?_⟩
        have e6 := r6 j
        simp only [Nat.add_zero] at e6
        by_cases hjn : j < cs.length
        · rw [List.getElem_append_left (by simpa using hjn)]
          rw [if_neg (by omega), Array.getElem?_eq_getElem hj', Array.getElem?_eq_getElem (by omega)] at e6
          rw [Option.some.inj e6]
          simp only [List.getElem_map]
          exact ((e4 j hjn (by omega)).mono hk (fun _ h => h) hs (fun _ _ h => h)).junked (fun _ _ _ h => h)
        · have hj4 : j < cs.length + ys.flatten.length := by have := hj; simp only [List.length_append, List.length_map] at this; exact this
          have hcond : n * tsize P (telem P t) ≤ j ∧ j < n * tsize P (telem P t) + vs.toList.length := ⟨by omega, by rw [Array.length_toList]; omega⟩
          rw [List.getElem_append_right (by simpa using hjn)]
          rw [if_pos hcond, Array.getElem?_eq_getElem hj', List.getElem?_eq_getElem (by rw [Array.length_toList]; omega)] at e6
          rw [Option.some.inj e6]
          have hr := (hvs3 (j - n * tsize P (telem P t)) (by omega) (by omega)).mono hk (fun _ h => h)
          simp only [List.getElem_map, List.length_map, Array.getElem_toList, hn]
          simp only [Nat.zero_add, Nat.add_zero] at *
          exact .t hr
      · rename_i hne
        simp only [Option.map_eq_some_iff] at hb'
        obtain ⟨cs0, hb0', rfl⟩ := hb'
        obtain ⟨c2, arr2, el2, f1, f2, f3, f4⟩ := h.heap b' cs0 hb0'
        have hcne : c2 ≠ c := fun e => hne (h.inj b' b c2 f1 (e ▸ hρb))
        exact ⟨c2, arr2, el2, f1, by rw [r3 c2 hcne]; exact f2, by simpa using f3, fun j hj hj' => by
          simp only [List.getElem_map]
          exact ((f4 j (by simpa using hj) hj').mono hk (fun _ h => h) hs (fun _ _ h => h)).junked (fun _ _ _ h => h)⟩
    · simp only [renew_H] at hb'
      split at hb'
      · cases hb'
      · simp only [Option.map_eq_none_iff] at hb'; exact h.dom b' hb'
    · simp only [renew_s]
      exact (h.lift hk (fun _ h => h) hs (fun _ _ h => h) t').junked (fun _ _ _ h => h)
  · -- a new array
    have hold : ∀ w', w'.heap = w.heap → (Builtin.firstCells (tsize P (telem P t)) n (.slice (some ⟨c, 0, none⟩) n cap)).run P w' = .ok ((List.range (n * tsize P (telem P t))).map fun j => (arr[j]?).getD undef).toArray w' := by
      intro w' hw'
      unfold Builtin.firstCells
      simp only []
      refine loadCells_run _ fun j hj => ?_
      have : j < arr.size := by omega
      rw [cell_heap hw']
      simp [World.cell?, e2, this]
    obtain ⟨k, rest, hk, hrest, hrun⟩ := append_out (P := P) (w := w) (w₀ := w) (ty := o.type) (A := some ⟨c, 0, none⟩) (A' := A') (n := n) (c := cap) (n' := ys.length) (c' := c') h1 h2 h3 h4 h5 (by omega) hb hb0 hz1 hold hvs1 rfl
    generalize hARR : ((List.range (n * tsize P (telem P t))).map fun j => (arr[j]?).getD undef).toArray ++ vs ++ rest = ARR at hrun
    have hsz1 : ((List.range (n * tsize P (telem P t))).map fun j => (arr[j]?).getD undef).toArray.size = n * tsize P (telem P t) := by simp
    have hARRs : ARR.size = k * tsize P (telem P t) := by
      rw [← hARR]
      simp only [Array.size_append, hsz1]
      rw [hrest, hvs2, hfl, hzs, ← Nat.add_mul, ← Nat.add_mul]
      congr 1; omega
    have hok : ∀ m, ok m → m < w.heap.size := fun m hm => (h.okR m hm).1
    have hρ : ∀ b' m, b' ≠ b → ρ b' = some m → ext ρ b (some w.heap.size) b' = some m := fun b' m hne hm => by simp [ext, hne, hm]
    have hkp := keeps_push (w := w) (o := .cells ARR (telem P t)) hok
    have hlast : ∀ m, m < w.heap.size → (w.heap.push (.cells ARR (telem P t)))[m]? = w.heap[m]? := fun m hm => by simp [Array.getElem?_push, Nat.ne_of_lt hm]
    have hsP : ∀ m el k, w.shape? m = some (el, k) → ({ w with heap := w.heap.push (.cells ARR (telem P t)) } : World).shape? m = some (el, k) := shape_push
    refine ⟨.slice (some ⟨w.heap.size, 0, none⟩) (n + ys.length) k, _, ext ρ b (some w.heap.size), ok, execOp_append ho (by rw [hvx, hvy]; exact hrun), .one (.vec (c := w.heap.size) (n := ARR.size) (by simp [ext]) hk ⟨telem P t, by simp [World.shape?]⟩ (by rw [hARRs]; omega)), ?_, ?_⟩
    · have main : SR (ext ρ b (some w.heap.size)) ok (σ.renew b (cs.map (jC b) ++ ys.flatten.map .t)) a { w with heap := w.heap.push (.cells ARR (telem P t)) } := by
        refine ⟨⟨fun b' cs' hb' => ?_, fun b' hb' => ?_, fun b1 b2 m h1 h2 => ?_, fun m hm => ⟨by have := hok m hm; simp; omega, fun b' hb' => ?_⟩⟩, h.size, fun t' => ?_, h.defers, h.small⟩
        · simp only [renew_H] at hb'
          split at hb'
          · subst b'; cases hb'
            refine ⟨w.heap.size, ARR, telem P t, by simp [ext], by simp, by rw [hARRs]; simp only [List.length_append, List.length_map, hn, hfl, ← Nat.add_mul]; exact Nat.mul_le_mul_right _ hk, fun j hj hj' => ?_⟩
            subst hARR
            by_cases hjn : j < cs.length
            · rw [List.getElem_append_left (by simpa using hjn)]
              rw [Array.getElem_append_left (by simp; omega), Array.getElem_append_left (by simp; omega)]
              simp only [List.getElem_map, List.getElem_toArray, List.getElem_range]
              have hlt : j < arr.size := by omega
              have := e4 j hjn hlt
              rw [show (arr[j]?).getD undef = arr[j] by simp [hlt]]
              exact (this.mono (ρ' := ρ) hkp (fun _ h => h) hsP (fun _ _ h => h)).junked hρ
            · have hj4 : j < cs.length + ys.flatten.length := by have := hj; simp only [List.length_append, List.length_map] at this; exact this
              rw [List.getElem_append_right (by simpa using hjn)]
              rw [Array.getElem_append_left (by rw [Array.size_append, hsz1]; omega), Array.getElem_append_right (by rw [hsz1]; omega)]
              have hr := (hvs3 (j - n * tsize P (telem P t)) (by omega) (by omega)).mono hkp (fun _ h => h)
              simp only [List.getElem_map, List.length_map, hsz1, hn]
              exact .t hr
          · rename_i hne
            simp only [Option.map_eq_some_iff] at hb'
            obtain ⟨cs0, hb0', rfl⟩ := hb'
            obtain ⟨c2, arr2, el2, f1, f2, f3, f4⟩ := h.heap b' cs0 hb0'
            refine ⟨c2, arr2, el2, hρ _ _ hne f1, by rw [hlast c2 (himg h.toHR f1)]; exact f2, by simpa using f3, fun j hj hj' => ?_⟩
            simp only [List.getElem_map]
            exact ((f4 j (by simpa using hj) hj').mono (ρ' := ρ) hkp (fun _ h => h) hsP (fun _ _ h => h)).junked hρ
        · simp only [renew_H] at hb'
          split at hb'
          · cases hb'
          · rename_i hne; simp only [Option.map_eq_none_iff] at hb'; simp [ext, hne, h.dom b' hb']
        · simp only [ext] at h1 h2
          split at h1 <;> split at h2
          · subst b1; subst b2; rfl
          · cases h1; have := himg h.toHR h2; omega
          · cases h2; have := himg h.toHR h1; omega
          · exact h.inj b1 b2 m h1 h2
        · simp only [ext] at hb'
          split at hb'
          · cases hb'; have := hok _ hm; omega
          · exact (h.okR m hm).2 b' hb'
        · simp only [renew_s]
          exact (h.lift (ρ' := ρ) hkp (fun _ h => h) hsP (fun _ _ h => h) t').junked hρ
      exact main.drawn.1
    · refine ⟨by simp, fun m hm _ => hlast m hm, hsP, fun b' m hb' => ?_, fun _ h => h, fun _ h => .inl h, fun b' hb' => .inl (by unfold ext; rw [if_neg (by omega)]), ⟨rfl, rfl⟩⟩
      simp only [ext] at hb'
      split at hb'
      · cases hb'; exact .inr (Nat.le_refl _)
      · exact .inl ⟨b', hb'⟩

end

theorem opA_by0 {P : Program} {m : Nat} {o : Oper} {σ : St} {K : AV → St → Prop} {r : AV} {σ' : St} (h : OStep P o σ r σ') (hn : σ'.n = σ.n) (hK : K r σ') : OpA P m o σ K := ⟨r, σ', hn, h, hK⟩
theorem opA_by {P : Program} {m : Nat} {o : Oper} {σ : St} {K : AV → St → Prop} {r : AV} {σ' : St} (hm : 2 ≤ m) (h : OStep P o σ r σ') (hn : σ'.n = σ.n) (hK : K r σ') : OpA P m o σ K := ⟨r, σ', hn, h, hK⟩
@[go_sem] theorem st_append {P : Program} {m : Nat} {σ : St} {K : AV → St → Prop} {d : Option Nat} {ty : TypeId} {pos : String} {af : Array Edge} {g : Option (Nat × Bool)} {as : Array Operand} {ats : Array TypeId} :
    stepA P m ⟨d, .call { callee := .builtin .append, args := as, argTypes := ats }, ty, pos, af, g⟩ σ K = OpA P m ⟨d, .call { callee := .builtin .append, args := as, argTypes := ats }, ty, pos, af, g⟩ σ K := rfl

end Go.Abs
namespace Go.Abs
open Go

/-! ### Letting an own slice become a tree -/
def fC (b sz len : Nat) (x : T) : C → C
  | .ptr b' o => if b' = b then .t .junk else .ptr b' o
  | .vec b' s o n => if b' = b then (if s = sz ∧ o = 0 ∧ n = len then .t x else .t .junk) else .vec b' s o n
  | .fn f caps => if caps.any (fun p => p.1 == b) then .t .junk else .fn f caps
  | .t y => .t y
def fA (b sz len : Nat) (x : T) : AV → AV
  | .one c => .one (fC b sz len x c)
  | .agg cs => .agg (cs.map (fC b sz len x))
  | .iptr cs => .iptr cs
  | .tup [] => .tup []
  | _ => .junk
def St.frz (σ : St) (b sz len : Nat) (x : T) : St := ⟨σ.n, fun t => fA b sz len x (σ.s t), fun n => if n = b then none else (σ.H n).map (·.map (fC b sz len x))⟩
section
variable {σ : St} {b sz len : Nat} {x : T}
@[go_sem] theorem frz_n : (σ.frz b sz len x).n = σ.n := rfl
@[go_sem] theorem frz_s {t : Nat} : (σ.frz b sz len x).s t = fA b sz len x (σ.s t) := rfl
@[go_sem] theorem frz_H {n : Nat} : (σ.frz b sz len x).H n = if n = b then none else (σ.H n).map (·.map (fC b sz len x)) := rfl
@[go_sem] theorem fA_one {c : C} : fA b sz len x (.one c) = .one (fC b sz len x c) := rfl
@[go_sem] theorem fA_agg {cs : List C} : fA b sz len x (.agg cs) = .agg (cs.map (fC b sz len x)) := rfl
@[go_sem] theorem fA_iptr {cs : List T} : fA b sz len x (.iptr cs) = .iptr cs := rfl
@[go_sem] theorem fA_junk : fA b sz len x .junk = .junk := rfl
@[go_sem] theorem fA_undef : fA b sz len x undefA = undefA := rfl
@[go_sem] theorem fA_litI {k : IntKind} {n : Int} : fA b sz len x (litI k n) = litI k n := rfl
@[go_sem] theorem fA_litB {y : Bool} : fA b sz len x (litB y) = litB y := rfl
@[go_sem] theorem fC_t {y : T} : fC b sz len x (.t y) = .t y := rfl
@[go_sem] theorem fC_ptr {b' o : Nat} : fC b sz len x (.ptr b' o) = if b' = b then .t .junk else .ptr b' o := rfl
@[go_sem] theorem fC_vec {b' s o n : Nat} : fC b sz len x (.vec b' s o n) = if b' = b then (if s = sz ∧ o = 0 ∧ n = len then .t x else .t .junk) else .vec b' s o n := rfl

/-- The tree that a whole own slice of trees comes to. -/
inductive TreeOf (cs : List C) (sz len : Nat) : T → Prop where
  | seq {nl : Option Bool} {xs : List (List T)} : nl ≠ some true → cs = xs.flatten.map .t → xs.length = len → (∀ y ∈ xs, y.length = sz) → TreeOf cs sz len (.seq nl xs)

theorem frz_core {ρ : Nat → Option Nat} {ok : Nat → Prop} {w : World} {H : Heap} (h : HR ρ ok H w) {cs : List C} (hb : H b = some cs) (hx : TreeOf cs sz len x) : ∃ c, ρ b = some c ∧
    (∀ {y : C} {v : Value}, RC w ok ρ y v → RC w (fun n => ok n ∨ n = c) (fun b' => if b' = b then none else ρ b') (fC b sz len x y) v) ∧
    (∀ {y : AV} {v : Value}, RA w ok ρ y v → RA w (fun n => ok n ∨ n = c) (fun b' => if b' = b then none else ρ b') (fA b sz len x y) v) := by
  obtain ⟨c, arr, el, h1, h2, h3, h4⟩ := h.heap b cs hb
  have hup : ∀ n, ok n → (ok n ∨ n = c) := fun _ h => .inl h
  have hk : Keeps ok w w := fun _ _ => rfl
  have key : ∀ {y : C} {v : Value}, RC w ok ρ y v → RC w (fun n => ok n ∨ n = c) (fun b' => if b' = b then none else ρ b') (fC b sz len x y) v := by
    intro y v hy
    have hone := hy.oneCell
    cases hy with
    | t hy => exact .t (hy.mono hk hup)
    | ptr hy =>
      simp only [fC]
      split
      · exact .t (.junk hone)
      · rename_i hne; exact .ptr (by rw [if_neg hne]; exact hy)
    | vec hy g1 g2 g3 =>
      simp only [fC]
      split
      · rename_i e
        split
        · rename_i e2
          obtain ⟨rfl, rfl, rfl⟩ := e2
          subst e
          rw [h1] at hy; cases hy
          rename_i b sz len cap nn
          cases hx with
          | seq k1 k2 k3 k4 =>
            rename_i nl xs
            refine .t (.seq (sz := sz) (blk := c) (off := 0) (u := fun i j => (arr[i * sz + j]?).getD undef) k3.symm g1 (fun e => by cases e) (fun e => absurd e k1) (fun _ => by simp) k4 (fun _ => ⟨rfl, .inr rfl⟩) (fun i hi j hj => ?_) (fun i hi j hj => ?_))
            · have hfl := flatten_length k4
              have hj' := k4 _ (List.getElem_mem hi)
              have : (i + 1) * sz ≤ xs.length * sz := Nat.mul_le_mul_right _ hi
              rw [Nat.succ_mul] at this
              have hcl : cs.length = xs.length * sz := by rw [k2, List.length_map, hfl]
              have hlt : i * sz + j < arr.size := by omega
              simp [World.cell?, h2, hlt]
            · have hfl := flatten_length k4
              have hj' := k4 _ (List.getElem_mem hi)
              have hle : (i + 1) * sz ≤ xs.length * sz := Nat.mul_le_mul_right _ hi
              rw [Nat.succ_mul] at hle
              have hcl : cs.length = xs.length * sz := by rw [k2, List.length_map, hfl]
              have hlt : i * sz + j < arr.size := by omega
              have hcr := h4 (i * sz + j) (by omega) hlt
              have hs0 : 0 < sz := by omega
              obtain ⟨q1, q2, q3⟩ := flatten_get hs0 k4 (i * sz + j) (by rw [hfl]; omega)
              have ed : (i * sz + j) / sz = i := by rw [Nat.mul_comm, Nat.mul_add_div hs0, Nat.div_eq_of_lt (by omega), Nat.add_zero]
              have em : (i * sz + j) % sz = j := by rw [Nat.mul_comm, Nat.mul_add_mod, Nat.mod_eq_of_lt (by omega)]
              simp only [ed, em] at q3
              have ec : cs[i * sz + j]'(by omega) = .t (xs[i][j]) := by
                simp only [k2, List.getElem_map, q3]
              rw [ec] at hcr
              cases hcr with
              | t hcr =>
                rw [show (arr[i * sz + j]?).getD undef = arr[i * sz + j] by simp [hlt]]
                exact hcr.mono hk hup
        · exact .t (.junk hone)
      · rename_i hne; exact .vec (by rw [if_neg hne]; exact hy) g1 g2 g3
    | fn hy g1 =>
      simp only [fC]
      split
      · exact .t (.junk hone)
      · rename_i hn
        refine .fn hy fun i hi hi' => ?_
        obtain ⟨c', k2, k3⟩ := g1 i hi hi'
        refine ⟨c', ?_, k3⟩
        have : ¬ (_ : Nat × Nat).1 = b := fun e => hn (List.any_eq_true.2 ⟨_, List.getElem_mem hi, by simpa using e⟩)
        rw [if_neg this]; exact k2
  refine ⟨c, h1, key, ?_⟩
  intro y v hy
  cases hy with
  | one hy => exact .one (key hy)
  | agg g1 g2 => exact .agg (by simpa using g1) fun j hj hj' => by simp only [List.getElem_map]; exact key (g2 j (by simpa using hj) hj')
  | iptr g1 g2 g3 => exact .iptr (.inl g1) g2 fun j hj => (g3 j hj).mono hk hup
  | @tup xs vs g1 g2 =>
    cases xs with
    | nil => exact .tup g1 fun j hj => by simp at hj
    | cons _ _ => exact .junk
  | junk => exact .junk

theorem frz_sound {ρ : Nat → Option Nat} {ok : Nat → Prop} {a : Act} {w : World} (h : SR ρ ok σ a w) {cs : List C} (hb : σ.H b = some cs) (hx : TreeOf cs sz len x) : ∃ ρ' ok', SR ρ' ok' (σ.frz b sz len x) a w ∧ Goes ρ ok w ρ' ok' w ∧
    ∀ {y : AV} {v : Value}, RA w ok ρ y v → RA w ok' ρ' (fA b sz len x y) v := by
  obtain ⟨c, h1, hC, hA⟩ := frz_core h.toHR hb hx
  refine ⟨_, _, ⟨⟨fun b' cs' hb' => ?_, fun b' hb' => ?_, fun b1 b2 m h1 h2 => ?_, fun m hm => ?_⟩, h.size, fun t => hA (h.slots t), h.defers, h.small⟩, ⟨Nat.le_refl _, fun _ _ _ => rfl, fun _ _ _ h => h, fun b' m hb' => ?_, fun _ h => .inl h, fun m hm => ?_, fun b' _ => by show (if _ then _ else _) = _ ∨ (if _ then _ else _) = _; split <;> simp, ⟨rfl, rfl⟩⟩, hA⟩
  · simp only [frz_H] at hb'
    split at hb'
    · cases hb'
    · rename_i hne
      simp only [Option.map_eq_some_iff] at hb'
      obtain ⟨cs0, hb0, rfl⟩ := hb'
      obtain ⟨c2, arr, el, f1, f2, f3, f4⟩ := h.heap b' cs0 hb0
      exact ⟨c2, arr, el, by rw [if_neg hne]; exact f1, f2, by simpa using f3, fun j hj hj' => by simp only [List.getElem_map]; exact hC (f4 j (by simpa using hj) hj')⟩
  · simp only [frz_H] at hb'
    split at hb'
    · rename_i e; simp [e]
    · rename_i hne; simp only [Option.map_eq_none_iff] at hb'; simp [hne, h.dom b' hb']
  · by_cases e1 : b1 = b
    · simp [e1] at h1
    · by_cases e2 : b2 = b
      · simp [e2] at h2
      · simp only [e1, e2, if_false] at h1 h2; exact h.inj b1 b2 m h1 h2
  · rcases hm with hm | rfl
    · refine ⟨(h.okR m hm).1, fun b' hb' => ?_⟩
      split at hb'
      · cases hb'
      · exact (h.okR m hm).2 b' hb'
    · refine ⟨himg h.toHR h1, fun b' hb' => ?_⟩
      split at hb'
      · cases hb'
      · rename_i hne; exact hne (h.inj b' b _ hb' h1)
  · split at hb'
    · cases hb'
    · exact .inl ⟨b', hb'⟩
  · rcases hm with hm | rfl
    · exact .inl hm
    · exact .inr (.inl ⟨b, h1⟩)

theorem gstep_frz {cs : List C} (hb : σ.H b = some cs) (hx : TreeOf cs sz len x) : GStep σ (σ.frz b sz len x) := fun ρ ok a w h => by
  obtain ⟨ρ', ok', h1, h2, _⟩ := frz_sound h hb hx
  exact ⟨ρ', ok', h1, h2⟩

/-- A pure call that is handed an own slice, which nobody writes any more. -/
theorem call_frz {P : Program} {m : Nat} {f : FuncId} {as : List AV} {tvs : List TV} {r : TV} {K : AV → St → Prop} (b sz len : Nat) {x : T} {cs : List C} (hm : m = 2) (hp : PCall P f tvs r) (hb : σ.H b = some cs) (hx : TreeOf cs sz len x) (has : as.map (fA b sz len x) = tvs.map emb)
    (hK : K (emb r) (σ.frz b sz len x)) : CallA P m f as σ K := by
  refine .inr (.inr (.inl ⟨hm, emb r, σ.frz b sz len x, rfl, ⟨hp.1, fun ρ ok a w vs h hv => ?_⟩, hK⟩))
  obtain ⟨ρ', ok', s1, g1, hA⟩ := frz_sound h hb hx
  have hv' : RArgs w ok' noρ (tvs.map emb) vs := by
    rw [← has]
    refine ⟨by rw [List.length_map]; exact hv.1, fun i hi hi' => ?_⟩
    have hi2 : i < as.length := by simpa using hi
    have e : (as.map (fA b sz len x))[i] = emb (tvs[i]'(by have := congrArg List.length has; simp at this; omega)) := by
      simp only [has, List.getElem_map]
    have h1 : RA w ok' ρ' ((as.map (fA b sz len x))[i]'(by simpa using hi2)) vs[i] := by simp only [List.getElem_map]; exact hA (hv.2 i hi2 hi')
    rw [e]
    exact RA_tree h1 _ e
  refine (hp.2 ok' w vs (fun n hn => (s1.okR n hn).1) hv').mono ?_
  rintro e w' ⟨v, ok'', rfl, hr, hg, hlt⟩
  obtain ⟨t1, t2⟩ := s1.pure hg hlt
  exact ⟨v, ρ', ok'', rfl, RA_tree hr _ rfl, t1, g1.trans t2⟩
end
end Go.Abs
namespace Go.Abs
open Go

/-! ### Own slices of values of one kind -/
def cellsL {α : Type} (f : α → List T) (xs : List α) : List C := (xs.map f).flatten.map .t
section
variable {α : Type} {f : α → List T} {xs ys : List α} {sz : Nat}
theorem cellsL_nil : cellsL f ([] : List α) = [] := rfl
theorem cellsL_cons {x : α} : cellsL f (x :: xs) = (f x).map .t ++ cellsL f xs := by simp [cellsL]
theorem cellsL_append : cellsL f (xs ++ ys) = cellsL f xs ++ cellsL f ys := by simp [cellsL]
theorem cellsL_length (h : ∀ x, (f x).length = sz) : (cellsL f xs).length = xs.length * sz := by
  induction xs with
  | nil => simp [cellsL_nil]
  | cons x l ih => rw [cellsL_cons, List.length_append, ih, List.length_map, h, List.length_cons, Nat.succ_mul]; omega
theorem cellsL_jC {b : Nat} : (cellsL f xs).map (jC b) = cellsL f xs := by
  unfold cellsL; rw [List.map_map]; rfl
theorem cellsL_fC {b s n : Nat} {x : T} : (cellsL f xs).map (fC b s n x) = cellsL f xs := by
  unfold cellsL; rw [List.map_map]; rfl
theorem cellsL_refs {D : List Nat} : (cellsL f xs).all (refsC D) = true := by
  rw [List.all_eq_true]; intro c hc
  unfold cellsL at hc
  obtain ⟨x, _, rfl⟩ := List.mem_map.1 hc
  rfl
theorem cellsL_drop (h : ∀ x, (f x).length = sz) : ∀ {xs : List α} {i : Nat}, (cellsL f xs).drop (i * sz) = cellsL f (xs.drop i)
  | [], i => by simp [cellsL_nil]
  | x :: l, 0 => by simp
  | x :: l, i + 1 => by
    rw [cellsL_cons, Nat.succ_mul, List.drop_append, List.drop_of_length_le (by rw [List.length_map, h]; omega), List.nil_append, List.length_map, h, Nat.add_sub_cancel, cellsL_drop h]
    rfl
theorem cellsL_take (h : ∀ x, (f x).length = sz) : ∀ {xs : List α} {i : Nat}, (cellsL f xs).take (i * sz) = cellsL f (xs.take i)
  | [], i => by simp [cellsL_nil]
  | x :: l, 0 => by simp [cellsL_nil]
  | x :: l, i + 1 => by
    rw [cellsL_cons, Nat.succ_mul, Nat.add_comm, List.take_add, List.take_left' (by simp [h]), List.drop_left' (by simp [h]), cellsL_take h, List.take_succ_cons, cellsL_cons]
/-- What lies from element i on. -/
theorem cellsL_at (h : ∀ x, (f x).length = sz) {i : Nat} (hi : i < xs.length) : (cellsL f xs).drop (i * sz) = (f xs[i]).map .t ++ cellsL f (xs.drop (i + 1)) := by
  rw [cellsL_drop h, List.drop_eq_getElem_cons hi, cellsL_cons]
theorem cellsL_set (h : ∀ x, (f x).length = sz) {i : Nat} (hi : i < xs.length) {y : α} : setCs (cellsL f xs) (i * sz) ((f y).map .t) = cellsL f (xs.set i y) := by
  unfold setCs
  rw [cellsL_take h]
  have e : (cellsL f xs).drop (i * sz + ((f y).map C.t).length) = cellsL f (xs.drop (i + 1)) := by
    rw [List.length_map, h, show i * sz + sz = (i + 1) * sz by rw [Nat.succ_mul], cellsL_drop h]
  rw [e, List.set_eq_take_append_cons_drop, if_pos hi, cellsL_append, cellsL_cons, List.append_assoc]
theorem cellsL_repl {x : α} {n : Nat} : repl n ((f x).map .t) = cellsL f (List.replicate n x) := by
  induction n with
  | zero => rfl
  | succ n ih => rw [repl_succ, ih, List.replicate_succ, cellsL_cons]
theorem cellsL_flat {x : α} : ([f x].flatten.map C.t) = cellsL f [x] := by simp [cellsL]

theorem treeOf_L (h : ∀ x, (f x).length = sz) : TreeOf (cellsL f xs) sz xs.length (eL f xs) :=
  .seq (by simp) rfl (by simp) (fun y hy => by obtain ⟨x, _, rfl⟩ := List.mem_map.1 hy; exact h x)

theorem fz_vec {H : Heap} {b n : Nat} (h : ∀ x, (f x).length = sz) (hb : H b = some (cellsL f xs)) (hn : n = xs.length) : FzC H (.vec b sz 0 n) (eL f xs) := by
  subst hn
  refine .vec (by simp) hb (by simp) (fun y hy => by obtain ⟨x, _, rfl⟩ := List.mem_map.1 hy; exact h x) (by rw [cellsL_length h]; omega) fun i hi j hj hlt => ?_
  have hall : ∀ y ∈ xs.map f, y.length = sz := fun y hy => by obtain ⟨x, _, rfl⟩ := List.mem_map.1 hy; exact h x
  have hj' := hall _ (List.getElem_mem hi)
  have hs0 : 0 < sz := by omega
  have hfl := flatten_length hall
  have hle : (i + 1) * sz ≤ (xs.map f).length * sz := Nat.mul_le_mul_right _ hi
  rw [Nat.succ_mul] at hle
  obtain ⟨q1, q2, q3⟩ := flatten_get hs0 hall (i * sz + j) (by rw [hfl]; omega)
  have ed : (i * sz + j) / sz = i := by rw [Nat.mul_comm, Nat.mul_add_div hs0, Nat.div_eq_of_lt (by omega), Nat.add_zero]
  have em : (i * sz + j) % sz = j := by rw [Nat.mul_comm, Nat.mul_add_mod, Nat.mod_eq_of_lt (by omega)]
  simp only [ed, em] at q3
  simp only [Nat.zero_add]
  have ec : (cellsL f xs)[i * sz + j]'(by simpa using hlt) = .t ((xs.map f)[i][j]) := by
    simp only [cellsL, List.getElem_map, q3]
  rw [ec]; exact .t
theorem fz_vecA {H : Heap} {b n : Nat} (h : ∀ x, (f x).length = sz) (hb : H b = some (cellsL f xs)) (hn : n = xs.length) : FzA H (.one (.vec b sz 0 n)) (.one (eL f xs)) := .one (fz_vec h hb hn)
theorem fz_nil {H : Heap} {nl : Option Bool} : FzA H (.one (.t (.seq nl []))) (.one (eL f [])) := .one .weak
end

/-! #### append, with typed elements -/
def AppTy (P : Program) (t t' : TypeId) (sz bytes : Nat) : Prop := tok P t = true ∧ isSliceD (tdesc P t) = true ∧ tok P (telem P t) = true ∧ tok P t' = true ∧ isSliceD (tdesc P t') = true ∧ (tzero P (telem P t)).isSome = true ∧
  ((tzero P (telem P t)).getD []).length = tsize P (telem P t) ∧ tsize P (telem P t) = sz ∧ tbytes P (telem P t) = bytes ∧ 0 < bytes
section
variable {P : Program} {m : Nat} {σ : St} {K : AV → St → Prop} {d : Nat} {ty : TypeId} {pos : String} {af : Array Edge} {g : Option (Nat × Bool)} {x y : Operand} {t t' : TypeId} {α : Type} {f : α → List T} {sz bytes : Nat}
/-- append to nil of one element or more. -/
theorem opA_app_nil (hm : 2 ≤ m) (hty : AppTy P t t' sz bytes) (hf : ∀ x, (f x).length = sz) {nl : Option Bool} {yv : List (List T)} (ys : List α) (hx : ev σ.s x = .one (.t (.seq (some true) []))) (hy : ev σ.s y = .one (.t (.seq nl yv))) (hys : yv = ys.map f)
    (hne : ys ≠ []) (hb : ys.length * bytes ≤ 2 ^ 47) (hd : σ.H d = none) (hdp : d < PIN) (hK : K (.one (.vec d sz 0 ys.length)) (σ.withH (upd σ.H d (some (cellsL f ys))))) :
    OpA P m ⟨some d, .call { callee := .builtin .append, args := #[x, y], argTypes := #[t, t'] }, ty, pos, af, g⟩ σ K := by
  obtain ⟨h1, h2, h3, h4, h5, h6, h7, rfl, rfl, h10⟩ := hty
  subst hys
  have := app_nil (P := P) (σ := σ) (d := d) (o := ⟨some d, .call { callee := .builtin .append, args := #[x, y], argTypes := #[t, t'] }, ty, pos, af, g⟩) rfl h1 h2 h3 h4 h5 h6 h7 h10 hx hy (fun z hz => by obtain ⟨w, _, rfl⟩ := List.mem_map.1 hz; exact hf w) (by simpa using hne) (by simpa using hb) hd hdp
  rw [List.length_map] at this
  exact opA_by hm this rfl hK
/-- append to an own slice that is its block whole. -/
theorem opA_app_vec (hm : 2 ≤ m) (hty : AppTy P t t' sz bytes) (hf : ∀ x, (f x).length = sz) {nl : Option Bool} {yv : List (List T)} (xs ys : List α) {b n : Nat} (hx : ev σ.s x = .one (.vec b sz 0 n)) (hn : n = xs.length) (hcs : σ.H b = some (cellsL f xs)) (hy : ev σ.s y = .one (.t (.seq nl yv))) (hys : yv = ys.map f)
    (hb : (xs.length + ys.length) * bytes ≤ 2 ^ 47) (hbp : b < PIN) (hK : K (.one (.vec b sz 0 (xs ++ ys).length)) (σ.renew b (cellsL f (xs ++ ys)))) :
    OpA P m ⟨some d, .call { callee := .builtin .append, args := #[x, y], argTypes := #[t, t'] }, ty, pos, af, g⟩ σ K := by
  obtain ⟨h1, h2, h3, h4, h5, h6, h7, rfl, rfl, h10⟩ := hty
  subst hys; subst hn
  have := app_vec (P := P) (σ := σ) (o := ⟨some d, .call { callee := .builtin .append, args := #[x, y], argTypes := #[t, t'] }, ty, pos, af, g⟩) rfl h1 h2 h3 h4 h5 h6 h7 h10 hx hcs (cellsL_length hf) hy (fun z hz => by obtain ⟨w, _, rfl⟩ := List.mem_map.1 hz; exact hf w) (by simpa using hb) hbp
  rw [cellsL_jC, List.length_map] at this
  have e : cellsL f xs ++ (ys.map f).flatten.map C.t = cellsL f (xs ++ ys) := by rw [cellsL_append]; rfl
  rw [e] at this
  rw [List.length_append] at hK
  exact opA_by hm this rfl hK
end

/-! #### Numbers -/
theorem tmodN {m n : Nat} : Int.tmod (m : Int) (n : Int) = ((m % n : Nat) : Int) := rfl
theorem tdivN {m n : Nat} : Int.tdiv (m : Int) (n : Int) = ((m / n : Nat) : Int) := rfl
theorem tmodB {m : Nat} : Int.tmod (m : Int) 1000000000 = ((m % 1000000000 : Nat) : Int) := rfl
theorem tdivB {m : Nat} : Int.tdiv (m : Int) 1000000000 = ((m / 1000000000 : Nat) : Int) := rfl

end Go.Abs
namespace Go.Abs
open Go

/-! ### Functions that write into what they are given -/
def scA : AV → Bool
  | .one (.t (.lit _)) => true
  | .tup [] => true
  | .tup [.one (.t (.lit _)), .one (.t (.lit _))] => true
  | _ => false

theorem RA.scalar {w w' : World} {ok ok' : Nat → Prop} {ρ ρ' : Nat → Option Nat} {x : AV} {v : Value} (h : RA w ok ρ x v) (hx : scA x = true) : RA w' ok' ρ' x v := by
  have lit : ∀ {l : Value} {v : Value}, RA w ok ρ (.one (.t (.lit l))) v → RA w' ok' ρ' (.one (.t (.lit l))) v := by
    intro l v h
    cases h with | one h => cases h with | t h => cases h with | lit h => exact .one (.t (.lit h))
  unfold scA at hx
  split at hx
  · exact lit h
  · cases h with | tup h1 h2 => exact .tup h1 fun j hj => by simp at hj
  · cases h with
    | tup h1 h2 =>
      refine .tup h1 fun j hj hj' => ?_
      have := h2 j hj hj'
      match j, hj with
      | 0, _ => exact lit this
      | 1, _ => exact lit this
  · cases hx

def single (b : Nat) (cs : List C) : Heap := fun n => if n = b then some cs else none
@[go_sem] theorem single_at {b n : Nat} {cs : List C} : single b cs n = if n = b then some cs else none := rfl
def treeC : C → Bool
  | .t _ => true
  | _ => false

def mretQ (P : Program) (rs : List ResultVar) (r : AV) (cs : List C) (e : Exit) (σ : St) : Prop :=
  (e = .normal ∨ e = .ret) ∧ (∀ x ∈ rs, resOk P σ x) ∧ retA P rs σ = r ∧ σ.H PIN = some cs

theorem RC.tree {ρ ρ' : Nat → Option Nat} {w : World} {ok : Nat → Prop} {x : C} {v : Value} (hx : treeC x = true) (h : RC w ok ρ x v) : RC w ok ρ' x v := by
  cases h with
  | t h => exact .t h
  | _ => simp [treeC] at hx

section
variable {P : Program}

/-- What is told about the foreign block holds of the block that it is. -/
def backs (b : Nat) (r r' : AV) : Prop := ∀ (w : World) (ok : Nat → Prop) (ρ ρ2 : Nat → Option Nat) (v : Value), ρ2 PIN = ρ b → RA w ok ρ2 r v → RA w ok ρ r' v
theorem backs_sc {b : Nat} {r : AV} (h : scA r = true) : backs b r r := fun _ _ _ _ _ _ hr => hr.scalar h
theorem backs_vec {b s o n : Nat} : backs b (.one (.vec PIN s o n)) (.one (.vec b s o n)) := fun _ _ _ _ _ e hr => by
  cases hr with
  | one hr => cases hr with
    | vec h1 h2 h3 h4 => exact .one (.vec (by rw [← e]; exact h1) h2 h3 h4)
theorem mcall_of_wpAG (hm : P.follows .mixedOrders = true) {f : FuncId} {fn : Func} {c : Code} {n : Nat} {rs : List ResultVar} {args : List AV} {r : AV} {cs cs' : List C} (hent : ∀ (as : Array Value) w, (callFunc f as).run P w = .ok (.enter f as) w) (hf : P.funcs[f]? = some fn)
    (hb : fn.body = some c) (hn : fn.ntmps = n) (hrs : fn.results = rs.toArray) (hl : args.length ≤ n) (hsm : n ≤ PIN) (hr : backs PIN r r) (hcs' : cs'.all treeC = true) (h : wpA P c (mretQ P rs r cs') (initSt n args (single PIN cs))) :
    MCall P f args (single PIN cs) r (single PIN cs') := by
  subst hn
  have e : fn.results.toList = rs := by rw [hrs]
  subst e
  refine ⟨hent, fun ρ ok w vs hH hv => calls_of_wp hf hb (Code.wp_mono ?_ (code_sound hm c _ _ ρ ok _ w (init_SR hH hv (by rw [hv.1]; exact hl) hsm) h))⟩
  rintro e a w' ⟨σ, ρ', ok', ⟨he, hres, hret, hfin⟩, s, g⟩
  obtain ⟨v, r1, r2⟩ := results_sound s hres
  rw [hret] at r2
  obtain ⟨c0, arr, el, k1, k2, k3, k4⟩ := s.heap PIN cs' hfin
  obtain ⟨c1, arr1, el1, j1, _⟩ := hH.heap PIN cs (by simp [single])
  have hpin : c0 = c1 := by
    rcases g.pin PIN (Nat.le_refl _) with h1 | h1
    · rw [h1, j1] at k1; exact (Option.some.inj k1).symm
    · rw [h1] at k1; cases k1
  subst hpin
  have hρ0 : ∀ b, b ≠ PIN → ρ b = none := fun b hb => hH.dom b (by simp [single, hb])
  have main : ∃ v' ρ'' ok'', Ending.returned v = .returned v' ∧ RA w' ok'' ρ'' r v' ∧ HR ρ'' ok'' (single PIN cs') w' ∧ Goes ρ ok w ρ'' ok'' w' ∧ ∀ b c, ρ b = some c → ρ'' b = some c := by
    refine ⟨v, ρ, ok', rfl, hr _ _ _ _ _ (by rw [k1, j1]) r2, ⟨fun b cs2 hb => ?_, fun b hb => ?_, hH.inj, fun m hm => ⟨(s.okR m hm).1, fun b hb => ?_⟩⟩, ⟨g.size, g.same, g.shape, fun b m hb => .inl ⟨b, hb⟩, g.up, g.down, fun _ _ => .inl rfl, g.env⟩, fun _ _ h => h⟩
    · simp only [single] at hb
      split at hb
      · subst b; cases hb
        refine ⟨c0, arr, el, j1, k2, k3, fun j hj hj' => ?_⟩
        exact (k4 j hj hj').tree ((List.all_eq_true.1 hcs') _ (List.getElem_mem hj))
      · cases hb
    · simp only [single] at hb
      split at hb
      · cases hb
      · exact hρ0 b ‹_›
    · by_cases e : b = PIN
      · subst e
        rw [j1] at hb; cases hb
        exact (s.okR _ hm).2 PIN k1
      · rw [hρ0 b e] at hb; cases hb
  have hfin2 : a.defers = [] ∧ ∃ v, (results fn a.tmps).run P w' = .ok v w' ∧ ∃ v' ρ'' ok'', Ending.returned v = .returned v' ∧ RA w' ok'' ρ'' r v' ∧ HR ρ'' ok'' (single PIN cs') w' ∧ Goes ρ ok w ρ'' ok'' w' ∧ ∀ b c, ρ b = some c → ρ'' b = some c :=
    ⟨s.defers, v, r1, main⟩
  rcases he with rfl | rfl <;> exact hfin2

theorem mcall_of_wpA (hm : P.follows .mixedOrders = true) {f : FuncId} {fn : Func} {c : Code} {n : Nat} {rs : List ResultVar} {args : List AV} {r : AV} {cs cs' : List C} (hent : ∀ (as : Array Value) w, (callFunc f as).run P w = .ok (.enter f as) w) (hf : P.funcs[f]? = some fn)
    (hb : fn.body = some c) (hn : fn.ntmps = n) (hrs : fn.results = rs.toArray) (hl : args.length ≤ n) (hsm : n ≤ PIN) (hr : scA r = true) (hcs' : cs'.all treeC = true) (h : wpA P c (mretQ P rs r cs') (initSt n args (single PIN cs))) :
    MCall P f args (single PIN cs) r (single PIN cs') := mcall_of_wpAG hm hent hf hb hn hrs hl hsm (backs_sc hr) hcs' h

def renC (b : Nat) : C → C
  | .vec b' s o n => if b' = b then .vec PIN s o n else .t .junk
  | .ptr b' o => if b' = b then .ptr PIN o else .t .junk
  | .t x => .t x
  | .fn _ _ => .t .junk
def renA (b : Nat) : AV → AV
  | .one c => .one (renC b c)
  | .agg cs => .agg (cs.map (renC b))
  | .iptr cs => .iptr cs
  | _ => .junk
@[go_sem] theorem renA_one {b : Nat} {c : C} : renA b (.one c) = .one (renC b c) := rfl
@[go_sem] theorem renA_litI {b : Nat} {k : IntKind} {n : Int} : renA b (litI k n) = litI k n := rfl
@[go_sem] theorem renA_litB {b : Nat} {x : Bool} : renA b (litB x) = litB x := rfl
@[go_sem] theorem renC_t {b : Nat} {x : T} : renC b (.t x) = .t x := rfl
@[go_sem] theorem renC_vec {b b' s o n : Nat} : renC b (.vec b' s o n) = if b' = b then .vec PIN s o n else .t .junk := rfl
@[go_sem] theorem renC_ptr {b b' o : Nat} : renC b (.ptr b' o) = if b' = b then .ptr PIN o else .t .junk := rfl

/-- A call that writes into one own block. -/
theorem call_mutG {m : Nat} {f : FuncId} {as args : List AV} {σ : St} {K : AV → St → Prop} (b : Nat) {cs cs' : List C} {r r' : AV} (hm : m = 1 ∨ m = 2) (h : MCall P f args (single PIN cs) r (single PIN cs')) (hb : σ.H b = some cs) (has : as.map (renA b) = args) (hr : backs b r r')
    (hcs : cs.all treeC = true) (hcs' : cs'.all treeC = true) (hK : K r' (σ.withH (upd σ.H b (some cs')))) : CallA P m f as σ K := by
  refine .inr (.inl ⟨hm, r', _, ⟨h.1, fun ρ ok w vs hH hv => ?_⟩, hK⟩)
  obtain ⟨c, arr, el, h1, h2, h3, h4⟩ := hH.heap b cs hb
  let ρ1 : Nat → Option Nat := fun x => if x = PIN then ρ b else none
  have hρ1 : ∀ x n, ρ1 x = some n → x = PIN ∧ n = c := fun x n hx => by
    simp only [ρ1] at hx
    split at hx
    · rw [h1] at hx; cases hx; exact ⟨‹_›, rfl⟩
    · cases hx
  have hH1 : HR ρ1 ok (single PIN cs) w := by
    refine ⟨fun x cs2 hx => ?_, fun x hx => ?_, fun x y n hx hy => by rw [(hρ1 x n hx).1, (hρ1 y n hy).1], fun n hn => ⟨(hH.okR n hn).1, fun x hx => ?_⟩⟩
    · simp only [single] at hx
      split at hx
      · subst x; cases hx
        exact ⟨c, arr, el, by simp [ρ1, h1], h2, h3, fun j hj hj' => RC.tree ((List.all_eq_true.1 hcs) _ (List.getElem_mem hj)) (h4 j hj hj')⟩
      · cases hx
    · simp only [single] at hx
      split at hx
      · cases hx
      · simp [ρ1, ‹¬ x = PIN›]
    · obtain ⟨_, rfl⟩ := hρ1 x n hx
      exact (hH.okR n hn).2 b h1
  have hren : ∀ {x : C} {v : Value}, RC w ok ρ x v → RC w ok ρ1 (renC b x) v := by
    intro x v hx
    have hone := hx.oneCell
    cases hx with
    | t hx => exact .t hx
    | ptr hx =>
      simp only [renC]
      split
      · subst_vars; exact .ptr (by simp [ρ1, hx])
      · exact .t (.junk hone)
    | vec hx g1 g2 g3 =>
      simp only [renC]
      split
      · subst_vars; exact .vec (by simp [ρ1, hx]) g1 g2 g3
      · exact .t (.junk hone)
    | fn _ _ => exact .t (.junk hone)
  have hrenA : ∀ {x : AV} {v : Value}, RA w ok ρ x v → RA w ok ρ1 (renA b x) v := by
    intro x v hx
    cases hx with
    | one hx => exact .one (hren hx)
    | agg g1 g2 => exact .agg (by simpa using g1) fun j hj hj' => by simp only [List.getElem_map]; exact hren (g2 j (by simpa using hj) hj')
    | iptr g1 g2 g3 => exact .iptr g1 g2 g3
    | tup _ _ => exact .junk
    | junk => exact .junk
  have hv1 : RArgs w ok ρ1 args vs := by
    rw [← has]
    refine ⟨by rw [List.length_map]; exact hv.1, fun i hi hi' => ?_⟩
    simp only [List.getElem_map]
    exact hrenA (hv.2 i (by simpa using hi) hi')
  refine (h.2 ρ1 ok w vs hH1 hv1).mono ?_
  rintro e w' ⟨v, ρ2, ok2, rfl, hrr, hH2, g, hρ2⟩
  obtain ⟨c', arr', el', f1, f2, f3, f4⟩ := hH2.heap PIN cs' (by simp [single])
  have hcc : c' = c := by
    have := hρ2 PIN c (by simp [ρ1, h1])
    rw [this] at f1; exact (Option.some.inj f1).symm
  subst hcc
  have hok2 : ∀ n, ok2 n → ∀ x, ρ x ≠ some n := fun n hn x hx => by
    rcases g.down n hn with k | ⟨b', k⟩ | k
    · exact (hH.okR n k).2 x hx
    · obtain ⟨_, rfl⟩ := hρ1 b' n k
      exact (hH2.okR n hn).2 PIN f1
    · have : n < w.heap.size := by
        cases hHx : σ.H x with
        | none => rw [hH.dom x hHx] at hx; cases hx
        | some csx =>
          obtain ⟨cx, ax, ex, q1, q2, _⟩ := hH.heap x csx hHx
          rw [hx] at q1; cases q1
          rcases Nat.lt_or_ge n w.heap.size with h3 | h3
          · exact h3
          · simp [Array.getElem?_eq_none h3] at q2
      omega
  have hk : Keeps ok w w' := fun n hn => g.same n (hH.okR n hn).1 fun x hx => by
    obtain ⟨_, rfl⟩ := hρ1 x n hx
    exact (hH.okR n hn).2 b h1
  refine ⟨v, ρ, ok2, rfl, hr _ _ _ _ _ (by rw [f1, h1]) hrr, ⟨fun x cs2 hx => ?_, fun x hx => ?_, hH.inj, fun n hn => ⟨(hH2.okR n hn).1, hok2 n hn⟩⟩, ⟨g.size, fun n hn hb' => g.same n hn fun x hx => ?_, g.shape, fun x n hx => .inl ⟨x, hx⟩, g.up, fun n hn => ?_, fun _ _ => .inl rfl, g.env⟩, fun _ _ h => h⟩
  · simp only [upd] at hx
    split at hx
    · subst x; cases hx
      exact ⟨c', arr', el', h1, f2, f3, fun j hj hj' => RC.tree ((List.all_eq_true.1 hcs') _ (List.getElem_mem hj)) (f4 j hj hj')⟩
    · rename_i hne
      obtain ⟨cx, ax, ex, q1, q2, q3, q4⟩ := hH.heap x cs2 hx
      have hcx : cx ≠ c' := fun e => hne (hH.inj x b cx q1 (e ▸ h1))
      have hlt : cx < w.heap.size := by
        rcases Nat.lt_or_ge cx w.heap.size with h3 | h3
        · exact h3
        · simp [Array.getElem?_eq_none h3] at q2
      refine ⟨cx, ax, ex, q1, by rw [g.same cx hlt fun y hy => hcx (hρ1 y cx hy).2]; exact q2, q3, fun j hj hj' => (q4 j hj hj').mono hk g.up g.shape (fun _ _ h => h)⟩
  · simp only [upd] at hx
    split at hx
    · cases hx
    · exact hH.dom x hx
  · obtain ⟨_, rfl⟩ := hρ1 x n hx
    exact hb' b h1
  · rcases g.down n hn with k | ⟨b', k⟩ | k
    · exact .inl k
    · obtain ⟨_, rfl⟩ := hρ1 b' n k
      exact .inr (.inl ⟨b, h1⟩)
    · exact .inr (.inr k)

theorem call_mut {m : Nat} {f : FuncId} {as args : List AV} {σ : St} {K : AV → St → Prop} (b : Nat) {cs cs' : List C} {r : AV} (hm : m = 1 ∨ m = 2) (h : MCall P f args (single PIN cs) r (single PIN cs')) (hb : σ.H b = some cs) (has : as.map (renA b) = args) (hr : scA r = true)
    (hcs : cs.all treeC = true) (hcs' : cs'.all treeC = true) (hK : K r (σ.withH (upd σ.H b (some cs')))) : CallA P m f as σ K := call_mutG b hm h hb has (backs_sc hr) hcs hcs' hK

@[go_sem] theorem mret1 {σ : St} {rr : ResultVar} {r : AV} {cs : List C} : mretQ P [rr] r cs .ret σ = (resOk P σ rr ∧ resA P σ rr = r ∧ σ.H PIN = some cs) := by simp [mretQ, retA]
@[go_sem] theorem mret1n {σ : St} {rr : ResultVar} {r : AV} {cs : List C} : mretQ P [rr] r cs .normal σ = (resOk P σ rr ∧ resA P σ rr = r ∧ σ.H PIN = some cs) := by simp [mretQ, retA]
@[go_sem] theorem mret0 {σ : St} {r : AV} {cs : List C} : mretQ P [] r cs .ret σ = (undefA = r ∧ σ.H PIN = some cs) := by simp [mretQ, retA, undefA]
@[go_sem] theorem mret0n {σ : St} {r : AV} {cs : List C} : mretQ P [] r cs .normal σ = (undefA = r ∧ σ.H PIN = some cs) := by simp [mretQ, retA, undefA]
end
end Go.Abs
namespace Go.Abs
open Go
variable {P : Program} {m : Nat} {σ : St} {K : AV → St → Prop}

theorem RA.int_inv {w : World} {ok : Nat → Prop} {ρ : Nat → Option Nat} {k : IntKind} {n : Int} {v : Value} (h : RA w ok ρ (litI k n) v) : v = .int k n := by
  unfold litI at h
  cases h with
  | one h => cases h with | t h => cases h; rfl

theorem opA_max {o : Oper} {x y : Operand} {ts : Array TypeId} (ho : o.op = .call { callee := .builtin .max, args := #[x, y], argTypes := ts }) {k : IntKind} {a b : Int} (hx : ev σ.s x = litI k a) (hy : ev σ.s y = litI k b) (hm : 2 ≤ m)
    (hK : K (litI k (if b > a then b else a)) σ) : OpA P m o σ K := by
  refine ⟨_, σ, rfl, fun ρ ok a' w h => ?_, hK⟩
  have h1 := RA_ev h x; rw [hx] at h1
  have h2 := RA_ev h y; rw [hy] at h2
  refine ⟨.int k (if b > a then b else a), w, ρ, ok, ?_, .one (.t (.lit rfl)), h, Goes.refl ρ ok w⟩
  simp only [execOp, ho, resolve, Sem.run_bind, Sem.run_pure, Result.andThen, List.map_toArray, List.map_cons, List.map_nil, h1.int_inv, h2.int_inv]
  rfl
theorem opA_min {o : Oper} {x y : Operand} {ts : Array TypeId} (ho : o.op = .call { callee := .builtin .min, args := #[x, y], argTypes := ts }) {k : IntKind} {a b : Int} (hx : ev σ.s x = litI k a) (hy : ev σ.s y = litI k b) (hm : 2 ≤ m)
    (hK : K (litI k (if b < a then b else a)) σ) : OpA P m o σ K := by
  refine ⟨_, σ, rfl, fun ρ ok a' w h => ?_, hK⟩
  have h1 := RA_ev h x; rw [hx] at h1
  have h2 := RA_ev h y; rw [hy] at h2
  refine ⟨.int k (if b < a then b else a), w, ρ, ok, ?_, .one (.t (.lit rfl)), h, Goes.refl ρ ok w⟩
  simp only [execOp, ho, resolve, Sem.run_bind, Sem.run_pure, Result.andThen, List.map_toArray, List.map_cons, List.map_nil, h1.int_inv, h2.int_inv]
  rfl
@[go_sem] theorem st_max {d : Option Nat} {ty : TypeId} {pos : String} {af : Array Edge} {g : Option (Nat × Bool)} {as : Array Operand} {ats : Array TypeId} :
    stepA P m ⟨d, .call { callee := .builtin .max, args := as, argTypes := ats }, ty, pos, af, g⟩ σ K = OpA P m ⟨d, .call { callee := .builtin .max, args := as, argTypes := ats }, ty, pos, af, g⟩ σ K := rfl
@[go_sem] theorem st_min {d : Option Nat} {ty : TypeId} {pos : String} {af : Array Edge} {g : Option (Nat × Bool)} {x y : Operand} {ats : Array TypeId} :
    stepA P m ⟨d, .call { callee := .builtin .min, args := #[x, y], argTypes := ats }, ty, pos, af, g⟩ σ K = (minOk [ev σ.s x, ev σ.s y] ∧ K (minV [ev σ.s x, ev σ.s y]) σ) := rfl
@[go_sem] theorem minOk_int {k k' : IntKind} {a b : Int} : minOk [litI k a, litI k' b] = (k = k') := rfl
@[go_sem] theorem minV_int {k k' : IntKind} {a b : Int} : minV [litI k a, litI k' b] = litI k (if b < a then b else a) := rfl
end Go.Abs
namespace Go.Abs
open Go
variable {P : Program}

inductive FzL (H : Heap) : List AV → List TV → Prop where
  | nil : FzL H [] []
  | cons {a : AV} {t : TV} {as : List AV} {ts : List TV} : FzA H a t → FzL H as ts → FzL H (a :: as) (t :: ts)
theorem FzL.len {H : Heap} {as : List AV} {ts : List TV} (h : FzL H as ts) : as.length = ts.length := by
  induction h with
  | nil => rfl
  | cons _ _ ih => simp [ih]
theorem FzL.get {H : Heap} {as : List AV} {ts : List TV} (h : FzL H as ts) : ∀ i (hi : i < as.length) (hi' : i < ts.length), FzA H as[i] ts[i] := by
  induction h with
  | nil => intro i hi; simp at hi
  | cons h _ ih =>
    intro i hi hi'
    cases i with
    | zero => exact h
    | succ i => exact ih i (by simpa using hi) (by simpa using hi')

/-- Fewer facts about what is handed over are enough. -/
theorem PCall.fz {f : FuncId} {tvs tvs' : List TV} {r : TV} (hp : PCall P f tvs r) (h : FzL noH (tvs'.map emb) tvs) : PCall P f tvs' r := by
  refine ⟨hp.1, fun ok w vs hok hv => hp.2 ok w vs hok ⟨?_, fun i hi hi' => ?_⟩⟩
  · rw [hv.1, h.len]; simp
  · have hH : HR noρ ok noH w := ⟨(fun b cs hb => by cases hb), (fun _ _ => rfl), (fun _ _ _ h => by cases h), fun n hn => ⟨hok n hn, (fun b h => by cases h)⟩⟩
    have hi2 : i < tvs.length := by simpa using hi
    have h1 : i < (tvs'.map emb).length := by rw [h.len]; exact hi2
    have h2 := (h.get i h1 hi2).sound hH (hv.2 i h1 hi')
    have e : okAll ok noρ = ok := by
      funext n; simp [okAll, noρ]
    rw [e] at h2
    simpa using h2
theorem call_fz {f : FuncId} {as : List AV} {tvs' tvs : List TV} {r : TV} {m : Nat} {σ : St} {K : AV → St → Prop} (hp : PCall P f tvs r) (has : as = tvs'.map emb) (h : FzL noH (tvs'.map emb) tvs) (hK : K (emb r) σ) : CallA P m f as σ K := call_pure (hp.fz h) has hK
theorem fzT {H : Heap} {x : T} : FzA H (.one (.t x)) (.one x) := .one .t
theorem fzW {H : Heap} {nl : Option Bool} {xs : List (List T)} : FzA H (.one (.t (.seq nl xs))) (.one (.seq none xs)) := .one .weak
end Go.Abs
namespace Go.Abs
open Go
variable {P : Program} {m : Nat} {σ : St} {K : AV → St → Prop}

theorem build0 {o : Oper} {d : Nat} {t : TypeId} (ho : o.op = .buildSlice t 0 #[]) (h1 : tok P t = true) (h2 : isSliceD (tdesc P t) = true) (h3 : tok P (telem P t) = true) (hd : σ.H d = none) (hdp : d < PIN) {sz : Nat} :
    OStep P o σ (.one (.vec d sz 0 0)) (σ.withH (upd σ.H d (some []))) := by
  intro ρ ok a w h
  obtain ⟨s1, s2⟩ := h.push (d := d) hdp hd (cs := []) (arr := #[]) (el := telem P t) (Nat.zero_le _) (fun j hj => by simp at hj)
  refine ⟨.slice (some ⟨w.heap.size, 0, none⟩) 0 0, _, _, _, ?_, .one (.vec (c := w.heap.size) (n := 0) (by simp [ext]) (Nat.le_refl _) ⟨telem P t, by simp [World.shape?]⟩ (by omega)), s1, s2⟩
  simp only [execOp, ho]
  refine v_run ?_
  unfold Instr.buildSlice
  rw [Sem.run_bind, run_underlying h1, slice_of h2]
  simp only [Result.andThen]
  rw [Sem.run_bind, run_sizeOf h3]
  simp only [Result.andThen, Nat.zero_mul]
  rw [if_neg (by omega)]
  simp only [if_true, Sem.run_bind, Sem.run_pure, Result.andThen, List.map_toArray, List.map_nil, Instr.fill, newRow, newObj]
  have e : ∀ g : Nat → Value, Array.map g (Array.range 0) = #[] := fun g => Array.eq_empty_of_size_eq_zero (by simp)
  rw [e]
  rfl
theorem opA_build0 {o : Oper} {t : TypeId} (d sz : Nat) (ho : o.op = .buildSlice t 0 #[]) (hm : 2 ≤ m) (hty : tok P t = true ∧ isSliceD (tdesc P t) = true ∧ tok P (telem P t) = true) (hd : σ.H d = none) (hdp : d < PIN)
    (hK : K (.one (.vec d sz 0 0)) (σ.withH (upd σ.H d (some [])))) : OpA P m o σ K :=
  opA_by hm (build0 ho hty.1 hty.2.1 hty.2.2 hd hdp) rfl hK

/-- A slice of which it isn't known whether it is nil is nil or isn't. -/
theorem RA.nilSplit {w : World} {ok : Nat → Prop} {ρ : Nat → Option Nat} {xs : List (List T)} {v : Value} (h : RA w ok ρ (.one (.t (.seq none xs))) v) :
    (xs = [] ∧ RA w ok ρ (.one (.t (.seq (some true) []))) v) ∨ RA w ok ρ (.one (.t (.seq (some false) xs))) v := by
  cases h with
  | one h => cases h with
    | t h => cases h with
      | @seq _ _ A n c sz u blk off g1 g2 g0 g3 g4 g5 g6 g7 g8 =>
        cases A with
        | none =>
          have : c = 0 := g0 rfl
          have : xs = [] := List.length_eq_zero_iff.1 (by omega)
          subst this
          exact .inl ⟨rfl, .one (.t (.seq g1 g2 g0 (fun _ => rfl) (fun e => by cases e) g5 g6 g7 g8))⟩
        | some A => exact .inr (.one (.t (.seq g1 g2 g0 (fun e => by cases e) (fun _ => by simp) g5 g6 g7 g8)))
theorem PCall.nil1 {f : FuncId} {xs : List (List T)} {r : TV} (h0 : xs = [] → PCall P f [.one (.seq (some true) [])] r) (h1 : PCall P f [.one (.seq (some false) xs)] r) : PCall P f [.one (.seq none xs)] r := by
  refine ⟨h1.1, fun ok w vs hok hv => ?_⟩
  obtain ⟨hs, hg⟩ := hv
  have h := hg 0 (by simp) (by rw [hs]; simp)
  rcases RA.nilSplit h with ⟨e, h⟩ | h
  · exact (h0 e).2 ok w vs hok ⟨hs, fun i hi hi' => by obtain rfl : i = 0 := by simpa using hi
                                                       exact h⟩
  · exact h1.2 ok w vs hok ⟨hs, fun i hi hi' => by obtain rfl : i = 0 := by simpa using hi
                                                   exact h⟩

theorem gstep_shrink {b k : Nat} {cs : List C} (hb : σ.H b = some cs) : GStep σ (σ.withH (upd σ.H b (some (cs.take k)))) := by
  intro ρ ok a w h
  refine ⟨ρ, ok, ⟨⟨fun b' cs' hb' => ?_, fun b' hb' => ?_, h.inj, h.okR⟩, h.size, h.slots, h.defers, h.small⟩, Goes.refl ρ ok w⟩
  · simp only [St.withH, upd] at hb'
    split at hb'
    · subst b'; cases hb'
      obtain ⟨c, arr, el, e1, e2, e3, e4⟩ := h.heap b cs hb
      refine ⟨c, arr, el, e1, e2, by rw [List.length_take]; omega, fun j hj hj' => ?_⟩
      rw [List.length_take] at hj
      rw [List.getElem_take]
      exact e4 j (by omega) hj'
    · exact h.heap b' cs' hb'
  · simp only [St.withH, upd] at hb'
    split at hb'
    · cases hb'
    · exact h.dom b' hb'
end Go.Abs
namespace Go.Abs
open Go
variable {P : Program}

/-- What stands where a function answers with a slice that is its own. -/
def fretQ (P : Program) (rr : ResultVar) (b sz n : Nat) (cs : List C) (e : Exit) (σ : St) : Prop :=
  (e = .ret ∨ e = .normal) ∧ resOk P σ rr ∧ resA P σ rr = .one (.vec b sz 0 n) ∧ ∃ l, σ.H b = some (cs ++ l)
@[go_sem] theorem fret1 {σ : St} {rr : ResultVar} {b sz n : Nat} {cs : List C} : fretQ P rr b sz n cs .ret σ = (resOk P σ rr ∧ resA P σ rr = .one (.vec b sz 0 n) ∧ ∃ l, σ.H b = some (cs ++ l)) := by simp [fretQ]
@[go_sem] theorem fret1n {σ : St} {rr : ResultVar} {b sz n : Nat} {cs : List C} : fretQ P rr b sz n cs .normal σ = (resOk P σ rr ∧ resA P σ rr = .one (.vec b sz 0 n) ∧ ∃ l, σ.H b = some (cs ++ l)) := by simp [fretQ]

/-- A function that answers with a slice of new memory. -/
def FCall (P : Program) (f : FuncId) (args : List TV) (sz n : Nat) (cs : List C) : Prop :=
  ∀ H d, H d = none → d < PIN → MCall P f (args.map emb) H (.one (.vec d sz 0 n)) (upd H d (some cs))

theorem fcall_of_wpA (hm : P.follows .mixedOrders = true) {f : FuncId} {fn : Func} {c : Code} {k : Nat} {rr : ResultVar} {args : List TV} {b sz n : Nat} {cs : List C} (hent : ∀ (as : Array Value) w, (callFunc f as).run P w = .ok (.enter f as) w) (hf : P.funcs[f]? = some fn)
    (hb : fn.body = some c) (hn : fn.ntmps = k) (hrs : fn.results = [rr].toArray) (hl : args.length ≤ k) (hsm : k ≤ PIN) (hcs : cs.all treeC = true) (h : wpA P c (fretQ P rr b sz n cs) (initSt k (args.map emb) noH)) : FCall P f args sz n cs := by
  subst hn
  have e : fn.results.toList = [rr] := by rw [hrs]
  intro H d hd hdp
  refine ⟨hent, fun ρ ok w vs hH hv => ?_⟩
  have hv0 : RArgs w ok noρ (args.map emb) vs := by
    refine ⟨hv.1, fun i hi hi' => ?_⟩
    have := hv.2 i hi hi'
    simp only [List.getElem_map] at this ⊢
    exact RA_tree this _ rfl
  refine calls_of_wp hf hb (Code.wp_mono ?_ (code_sound hm c _ _ noρ ok _ w (init_SR ⟨fun b cs hb => (by cases hb), fun _ _ => rfl, fun _ _ _ h => (by cases h), fun n hn => ⟨(hH.okR n hn).1, fun _ h => (by cases h)⟩⟩ hv0 (by rw [hv0.1]; simpa using hl) hsm) h))
  rintro e' a w' ⟨σ, ρ1, ok1, ⟨he, hres, hret, l, hfin⟩, s, g⟩
  have hro : resOk P σ rr := hres
  obtain ⟨v, r1, r2⟩ := results_sound (P := P) (fn := fn) s (by rw [e]; intro r hr; simp at hr; subst hr; exact hro)
  have r3 : RA w' ok1 ρ1 (.one (.vec b sz 0 n)) v := by
    rw [e] at r2
    simp only [retA] at r2
    rw [hret] at r2; exact r2
  obtain ⟨c0, arr, el, k1, k2, k3, k4⟩ := s.heap b (cs ++ l) hfin
  rw [List.length_append] at k3
  have hc0 : w.heap.size ≤ c0 := by
    rcases g.img b c0 k1 with ⟨b', h1⟩ | h1
    · cases h1
    · exact h1
  have hdn : ρ d = none := hH.dom d hd
  have hsame : ∀ n, n < w.heap.size → w'.heap[n]? = w.heap[n]? := fun n hn => g.same n hn (fun b e => by cases e)
  have himgρ : ∀ x n, ρ x = some n → n < w.heap.size := fun x n hx => by
    cases hHx : H x with
    | none => rw [hH.dom x hHx] at hx; cases hx
    | some csx =>
      obtain ⟨cx, ax, ex, q1, q2, _⟩ := hH.heap x csx hHx
      rw [hx] at q1; cases q1
      rcases Nat.lt_or_ge n w.heap.size with h3 | h3
      · exact h3
      · simp [Array.getElem?_eq_none h3] at q2
  have hk : Keeps ok w w' := fun n hn => hsame n (hH.okR n hn).1
  have hρ' : ∀ x y, ρ x = some y → ext ρ d (some c0) x = some y := fun x y hx => by
    unfold ext; rw [if_neg (fun e => by rw [e, hdn] at hx; cases hx)]; exact hx
  have main : ∃ v' ρ'' ok'', Ending.returned v = .returned v' ∧ RA w' ok'' ρ'' (.one (.vec d sz 0 n)) v' ∧ HR ρ'' ok'' (upd H d (some cs)) w' ∧ Goes ρ ok w ρ'' ok'' w' ∧ ∀ b c, ρ b = some c → ρ'' b = some c := by
    refine ⟨v, ext ρ d (some c0), ok1, rfl, ?_, ⟨fun x cs2 hx => ?_, fun x hx => ?_, fun x y n hx hy => ?_, fun n hn => ⟨(s.okR n hn).1, fun x hx => ?_⟩⟩, ⟨g.size, fun n hn _ => hsame n hn, g.shape, fun x n hx => ?_, g.up, fun n hn => ?_, fun x hx => .inl ?_, g.env⟩, hρ'⟩
    · cases r3 with
      | one r3 => cases r3 with
        | vec h1 h2 h3 h4 =>
          rw [k1] at h1; cases h1
          exact .one (.vec (by simp [ext]) h2 h3 h4)
    · simp only [upd] at hx
      split at hx
      · subst x; cases hx
        exact ⟨c0, arr, el, by simp [ext], k2, by omega, fun j hj hj' => by
          have := k4 j (by rw [List.length_append]; omega) hj'
          rw [List.getElem_append_left hj] at this
          exact this.tree ((List.all_eq_true.1 hcs) _ (List.getElem_mem hj))⟩
      · obtain ⟨cx, ax, ex, q1, q2, q3, q4⟩ := hH.heap x cs2 hx
        refine ⟨cx, ax, ex, hρ' _ _ q1, by rw [hsame cx (himgρ _ _ q1)]; exact q2, q3, fun j hj hj' => (q4 j hj hj').mono hk g.up g.shape hρ'⟩
    · simp only [upd] at hx
      split at hx
      · cases hx
      · unfold ext; rw [if_neg ‹_›]; exact hH.dom x hx
    · unfold ext at hx hy
      split at hx <;> split at hy
      · subst_vars; rfl
      · cases hx; have := himgρ _ _ hy; omega
      · cases hy; have := himgρ _ _ hx; omega
      · exact hH.inj x y n hx hy
    · unfold ext at hx
      split at hx
      · cases hx; exact (s.okR _ hn).2 b k1
      · rcases g.down n hn with k | ⟨b', k⟩ | k
        · exact (hH.okR n k).2 x hx
        · cases k
        · have := himgρ _ _ hx; omega
    · unfold ext at hx
      split at hx
      · cases hx; exact .inr hc0
      · exact .inl ⟨x, hx⟩
    · rcases g.down n hn with k | ⟨b', k⟩ | k
      · exact .inl k
      · cases k
      · exact .inr (.inr k)
    · unfold ext; rw [if_neg (by omega)]
  have hfin2 : a.defers = [] ∧ ∃ v, (results fn a.tmps).run P w' = .ok v w' ∧ ∃ v' ρ'' ok'', Ending.returned v = .returned v' ∧ RA w' ok'' ρ'' (.one (.vec d sz 0 n)) v' ∧ HR ρ'' ok'' (upd H d (some cs)) w' ∧ Goes ρ ok w ρ'' ok'' w' ∧ ∀ b c, ρ b = some c → ρ'' b = some c :=
    ⟨s.defers, v, r1, main⟩
  rcases he with rfl | rfl <;> exact hfin2

theorem call_new {m : Nat} {f : FuncId} {as : List AV} {tvs : List TV} {σ : St} {K : AV → St → Prop} (d : Nat) {sz n : Nat} {cs : List C} (hm : m = 1 ∨ m = 2) (h : FCall P f tvs sz n cs) (has : as = tvs.map emb) (hd : σ.H d = none) (hdp : d < PIN)
    (hK : K (.one (.vec d sz 0 n)) (σ.withH (upd σ.H d (some cs)))) : CallA P m f as σ K := has ▸ .inr (.inl ⟨hm, _, _, h σ.H d hd hdp, hK⟩)
end Go.Abs
namespace Go.Abs
open Go
section
variable {P : Program} {σ : St} {w w₀ : World} {a : Act} {ρ : Nat → Option Nat} {ok : Nat → Prop}
theorem int_of {t : TypeId} {k : IntKind} (h : intD (tdesc P t) = some k) : tdesc P t = .int k := by
  unfold intD at h; split at h
  · cases h; assumption
  · cases h
theorem wrapL {L : Nat} {t : TypeId} (hb0 : L * tbytes P (telem P t) ≤ 2 ^ 47) (h0 : 0 < tbytes P (telem P t)) : IntKind.wrap .i64 (L : Int) = L := by
  have : L * 1 ≤ L * tbytes P (telem P t) := Nat.mul_le_mul_left _ h0
  exact wrap_i64 (by omega) (by omega)
theorem happ {e : TypeId} {z : Value} {L : Nat} (hz : (P.info? e).bind (·.zero) = some z) (hzs : z.cells.size = tsize P e) (h3 : tok P e = true) :
    (if L * tsize P e = 0 then (pure #[] : Sem (Array Value)) else do pure (Builtin.zeroCells (← zeroValue e).cells L)).run P w = .ok (Builtin.zeroCells z.cells L) w := by
  split
  · rename_i h
    have : Builtin.zeroCells z.cells L = #[] := by
      apply Array.eq_empty_of_size_eq_zero; simp only [Builtin.zeroCells, Array.size_map, Array.size_range]; rw [hzs]; exact h
    rw [this]; rfl
  · rw [Sem.run_bind, run_zeroValue h3 hz]; rfl
theorem append_inM {t t' ty : TypeId} {c0 off n c L : Nat} (h1 : tok P t = true) (h2 : isSliceD (tdesc P t) = true) (h3 : tok P (telem P t) = true) (h4 : tok P t' = true) (h5 : intD (tdesc P t') = some .i64) (hL : L * tbytes P (telem P t) ≤ 2 ^ 47) (hb0 : 0 < tbytes P (telem P t))
    (hc : n + L ≤ c) {z : Value} (hz : (P.info? (telem P t)).bind (·.zero) = some z) (hzs : z.cells.size = tsize P (telem P t)) {w' : World} (hst : (storeCells ⟨c0, off + n * tsize P (telem P t), none⟩ (Builtin.zeroCells z.cells L).toList 0).run P w = .ok () w') :
    (Builtin.append_ #[t, t'] ty #[.slice (some ⟨c0, off, none⟩) n c, .int .i64 (L : Int)]).run P w = .ok (.slice (some ⟨c0, off, none⟩) (n + L) c) w' := by
  obtain ⟨i, hi, hti⟩ := run_typeInfo (w := w) h3
  have hbi : tbytes P (telem P t) = i.bytes := by simp [tbytes, hi]
  unfold Builtin.append_
  simp only [List.getElem?_toArray, List.getElem?_cons_zero, List.getElem?_cons_succ]
  rw [Sem.run_bind, run_underlying h1, slice_of h2]
  simp only [Result.andThen]
  rw [Sem.run_bind, run_sizeOf h3]
  simp only [Result.andThen]
  rw [Sem.run_bind, run_underlying h4, int_of h5]
  simp only [Result.andThen]
  rw [Sem.run_bind]
  simp only [Result.andThen, Sem.run_pure, if_true]
  have hai : (asInt (.int .i64 (L : Int))).run P w = .ok (L : Int) w := rfl
  rw [Sem.run_bind, hai]
  simp only [Sem.run_pure, Result.andThen, wrapL hL hb0, Bool.not_true, Bool.false_eq_true, if_false]
  rw [if_neg (by omega), Sem.run_bind, hti]
  simp only [Result.andThen]
  rw [if_neg (by rw [← hbi]; intro h; omega)]
  simp only [Sem.run_pure, Int.toNat_natCast]
  rw [Sem.run_bind]
  simp only [Sem.run_pure, Result.andThen]
  rw [if_pos hc, Sem.run_bind, happ hz hzs h3]
  simp only [Result.andThen]
  rw [Sem.run_bind, add_none, hst]
  rfl
theorem append_outM {t t' ty : TypeId} {A : Option Addr} {n c L : Nat} (h1 : tok P t = true) (h2 : isSliceD (tdesc P t) = true) (h3 : tok P (telem P t) = true) (h4 : tok P t' = true) (h5 : intD (tdesc P t') = some .i64) (hL : L * tbytes P (telem P t) ≤ 2 ^ 47)
    (hc : c < n + L) (hb : (n + L) * tbytes P (telem P t) ≤ 2 ^ 47) (hb0 : 0 < tbytes P (telem P t)) {z : Value} (hz : (P.info? (telem P t)).bind (·.zero) = some z) (hzs : z.cells.size = tsize P (telem P t)) {old : Array Value} (hold : ∀ w, w.heap = w₀.heap → (Builtin.firstCells (tsize P (telem P t)) n (.slice A n c)).run P w = .ok old w)
    (hw : w.heap = w₀.heap) :
    ∃ (k : Nat) (rest : Array Value), n + L ≤ k ∧ rest.size = (k - (n + L)) * z.cells.size ∧ (Builtin.append_ #[t, t'] ty #[.slice A n c, .int .i64 (L : Int)]).run P w =
      .ok (.slice (some ⟨w.heap.size, 0, none⟩) (n + L) k) { w with heap := w.heap.push (.cells (old ++ Builtin.zeroCells z.cells L ++ rest) (telem P t)), drawn := w.drawn + 1 } := by
  refine ⟨(Question.appendCap (n + L) c (telem P t)).cut (w.tape w.drawn (Question.appendCap (n + L) c (telem P t))), Builtin.zeroCells z.cells ((Question.appendCap (n + L) c (telem P t)).cut (w.tape w.drawn (Question.appendCap (n + L) c (telem P t))) - (n + L)), ?_, by simp [Builtin.zeroCells], ?_⟩
  · simp only [Question.cut]; omega
  generalize hk : (Question.appendCap (n + L) c (telem P t)).cut (w.tape w.drawn (Question.appendCap (n + L) c (telem P t))) = k
  obtain ⟨i, hi, hti⟩ := run_typeInfo (w := w) h3
  have hbi : tbytes P (telem P t) = i.bytes := by simp [tbytes, hi]
  unfold Builtin.append_
  simp only [List.getElem?_toArray, List.getElem?_cons_zero, List.getElem?_cons_succ]
  rw [Sem.run_bind, run_underlying h1, slice_of h2]
  simp only [Result.andThen]
  rw [Sem.run_bind, run_sizeOf h3]
  simp only [Result.andThen]
  rw [Sem.run_bind, run_underlying h4, int_of h5]
  simp only [Result.andThen]
  rw [Sem.run_bind]
  simp only [Result.andThen, Sem.run_pure, if_true]
  have hai : (asInt (.int .i64 (L : Int))).run P w = .ok (L : Int) w := rfl
  rw [Sem.run_bind, hai]
  simp only [Sem.run_pure, Result.andThen, wrapL hL hb0, Bool.not_true, Bool.false_eq_true, if_false]
  rw [if_neg (by omega), Sem.run_bind, hti]
  simp only [Result.andThen]
  rw [if_neg (by rw [← hbi]; intro h; omega)]
  simp only [Sem.run_pure, Int.toNat_natCast]
  rw [Sem.run_bind]
  simp only [Sem.run_pure, Result.andThen]
  rw [if_neg (by omega), Sem.run_bind, hti]
  simp only [Result.andThen]
  have hnL : (n + L) * 1 ≤ (n + L) * tbytes P (telem P t) := Nat.mul_le_mul_left _ hb0
  rw [if_neg (by simp only [IntKind.max]; rintro ⟨h, _⟩; simp [IntKind.signed, IntKind.bits] at h; omega), Sem.run_bind, hti]
  simp only [Result.andThen]
  rw [if_neg (by rw [← hbi]; have := growslice_fits hc (by simpa using hb); simp at this ⊢; omega), Sem.run_bind, choose_run rfl, hk]
  simp only [Result.andThen]
  obtain ⟨i', hi', hti'⟩ := run_typeInfo (P := P) (w := { w with drawn := w.drawn + 1 }) h3
  rw [Sem.run_bind, hti']
  simp only [Result.andThen]
  have hroom : ∀ b : Nat, (askRoom b).run P { w with drawn := w.drawn + 1 } = .ok () { w with drawn := w.drawn + 1 } := fun b => by unfold askRoom; split <;> rfl
  rw [Sem.run_bind, hroom]
  simp only [Result.andThen]
  rw [Sem.run_bind, hold { w with drawn := w.drawn + 1 } hw]
  simp only [Result.andThen]
  rw [Sem.run_bind, happ hz hzs h3]
  simp only [Result.andThen]
  rw [Sem.run_bind, run_zeroValue h3 hz]
  simp only [Result.andThen, newRow, newObj]
  rfl

theorem app_vecM {o : Oper} {b n L : Nat} {x y : Operand} {t t' : TypeId} (ho : o.op = .call { callee := .builtin .append, args := #[x, y], argTypes := #[t, t'] }) (h1 : tok P t = true) (h2 : isSliceD (tdesc P t) = true) (h3 : tok P (telem P t) = true) (h4 : tok P t' = true)
    (h5 : intD (tdesc P t') = some .i64) {z : List C} (hz : tzero P (telem P t) = some z) (hzl : z.length = tsize P (telem P t)) (hb0 : 0 < tbytes P (telem P t)) {cs : List C} (hx : ev σ.s x = .one (.vec b (tsize P (telem P t)) 0 n)) (hcs : σ.H b = some cs)
    (hn : cs.length = n * tsize P (telem P t)) (hy : ev σ.s y = litI .i64 (L : Int))
    (hb : (n + L) * tbytes P (telem P t) ≤ 2 ^ 47) (hbp : b < PIN) : OStep P o σ (.one (.vec b (tsize P (telem P t)) 0 (n + L))) (σ.renew b (cs.map (jC b) ++ repl L z)) := by
  intro ρ ok a w h
  obtain ⟨zv, hz1, hz2⟩ := litCs_tzero hz
  have hzs : zv.cells.size = tsize P (telem P t) := by
    have := (RCs_litCs (w := w) (ok := ok) (ρ := ρ) hz2).1
    rw [← hzl, this]; simp
  have hax := RA_ev h x
  have hay := RA_ev h y
  rw [hx] at hax
  rw [hy] at hay
  have hvy := hay.int_inv
  obtain ⟨c, cap, n0, hρb, hvx, k2, k3, k4⟩ := hax.vec_inv
  have hLb : L * tbytes P (telem P t) ≤ 2 ^ 47 := Nat.le_trans (Nat.mul_le_mul_right _ (by omega)) hb
  have zr := fun (w : World) (ok : Nat → Prop) (ρ : Nat → Option Nat) => zeros_rel (RCs_litCs (w := w) (ok := ok) (ρ := ρ) hz2).1 (RCs_litCs (w := w) (ok := ok) (ρ := ρ) hz2).2 L
  have hzz : (Array.range (L * z.length)).map (zv.cells[· % zv.cells.size]!) = Builtin.zeroCells zv.cells L := by unfold Builtin.zeroCells; rw [hzs, hzl]
  rw [hzz] at zr
  have hfl : (repl L z).length = L * tsize P (telem P t) := by rw [repl_length, hzl]
  generalize hvsd : Builtin.zeroCells zv.cells L = vs at zr
  have hvs2 : vs.size = (repl L z).length := (zr w ok ρ).1
  obtain ⟨cb, arr, el, e1, e2, e3, e4⟩ := h.heap b cs hcs
  rw [hρb] at e1; cases e1
  have hn0 : n0 = arr.size := by
    obtain ⟨el', hs⟩ := k3
    simp [World.shape?, e2] at hs
    exact hs.2.symm
  subst hn0
  by_cases hcap : n + L ≤ cap
  · -- there is room
    have hroom : n * tsize P (telem P t) + L * tsize P (telem P t) ≤ arr.size := by
      have : (n + L) * tsize P (telem P t) ≤ cap * tsize P (telem P t) := Nat.mul_le_mul_right _ hcap
      rw [Nat.add_mul] at this; omega
    have hone : ∀ v ∈ vs.toList, oneC v = true := fun v hv => by
      obtain ⟨j, hj, rfl⟩ := List.mem_iff_getElem.1 hv
      have hj2 : j < vs.size := by simpa using hj
      have := ((zr w ok ρ).2 j (by omega) hj2).oneCell
      simpa using this
    obtain ⟨w', arr', r1, r2, r3, r4, r5, r6, r7⟩ := storeCells_run (P := P) (c := c) (off := n * tsize P (telem P t)) vs.toList 0 w arr e2 hone (by simp; omega)
    have hk : Keeps ok w w' := fun m hm => r3 m (fun e => (h.okR m hm).2 b (e ▸ hρb))
    have hs : ∀ m el k, w.shape? m = some (el, k) → w'.shape? m = some (el, k) := fun m el' k hsn => by
      by_cases hm : m = c
      · subst hm; simp [World.shape?, e2] at hsn; simp [World.shape?, r4, r5, hsn]
      · simpa [World.shape?, r3 m hm] using hsn
    have hin := append_inM (P := P) (w := w) (w' := w') (t := t) (t' := t') (ty := o.type) (c0 := c) (off := 0) (n := n) (c := cap) (L := L) h1 h2 h3 h4 h5 hLb hb0 hcap hz1 hzs (by rw [Nat.zero_add, hvsd]; exact r1)
    refine ⟨.slice (some ⟨c, 0, none⟩) (n + L) cap, w', ρ, ok, execOp_append ho (by rw [hvx, hvy]; exact hin), .one (.vec hρb hcap (hs _ _ _ (by simp [World.shape?, e2]; rfl) |> fun h => ⟨_, h⟩) k4), ⟨⟨fun b' cs' hb' => ?_, fun b' hb' => ?_, h.inj, fun m hm => ⟨by rw [r2]; exact (h.okR m hm).1, (h.okR m hm).2⟩⟩, h.size, fun t' => ?_, h.defers, h.small⟩, ⟨by omega, fun m hm hb' => r3 m (fun e => hb' b (e ▸ hρb)), hs, fun b' m hb' => .inl ⟨b', hb'⟩, fun _ h => h, fun _ h => .inl h, fun _ _ => .inl rfl, r7⟩⟩
    · simp only [renew_H] at hb'
      split at hb'
      · subst b'; cases hb'
        refine ⟨c, arr', el, hρb, r4, by simp only [List.length_append, List.length_map]; omega, fun j hj hj' => ?_⟩
        have e6 := r6 j
        simp only [Nat.add_zero] at e6
        by_cases hjn : j < cs.length
        · rw [List.getElem_append_left (by simpa using hjn)]
          rw [if_neg (by omega), Array.getElem?_eq_getElem hj', Array.getElem?_eq_getElem (by omega)] at e6
          rw [Option.some.inj e6]
          simp only [List.getElem_map]
          exact ((e4 j hjn (by omega)).mono hk (fun _ h => h) hs (fun _ _ h => h)).junked (fun _ _ _ h => h)
        · have hj4 : j < cs.length + (repl L z).length := by have := hj; simp only [List.length_append, List.length_map] at this; exact this
          have hcond : n * tsize P (telem P t) ≤ j ∧ j < n * tsize P (telem P t) + vs.toList.length := ⟨by omega, by rw [Array.length_toList]; omega⟩
          rw [List.getElem_append_right (by simpa using hjn)]
          rw [if_pos hcond, Array.getElem?_eq_getElem hj', List.getElem?_eq_getElem (by rw [Array.length_toList]; omega)] at e6
          rw [Option.some.inj e6]
          have hr := (zr w' ok ρ).2 (j - n * tsize P (telem P t)) (by omega) (by omega)
          simp only [List.length_map, Array.getElem_toList, hn]
          simp only [Nat.zero_add, Nat.add_zero] at *
          exact hr
      · rename_i hne
        simp only [Option.map_eq_some_iff] at hb'
        obtain ⟨cs0, hb0', rfl⟩ := hb'
        obtain ⟨c2, arr2, el2, f1, f2, f3, f4⟩ := h.heap b' cs0 hb0'
        have hcne : c2 ≠ c := fun e => hne (h.inj b' b c2 f1 (e ▸ hρb))
        exact ⟨c2, arr2, el2, f1, by rw [r3 c2 hcne]; exact f2, by simpa using f3, fun j hj hj' => by
          simp only [List.getElem_map]
          exact ((f4 j (by simpa using hj) hj').mono hk (fun _ h => h) hs (fun _ _ h => h)).junked (fun _ _ _ h => h)⟩
    · simp only [renew_H] at hb'
      split at hb'
      · cases hb'
      · simp only [Option.map_eq_none_iff] at hb'; exact h.dom b' hb'
    · simp only [renew_s]
      exact (h.lift hk (fun _ h => h) hs (fun _ _ h => h) t').junked (fun _ _ _ h => h)
  · -- a new array
    have hold : ∀ w', w'.heap = w.heap → (Builtin.firstCells (tsize P (telem P t)) n (.slice (some ⟨c, 0, none⟩) n cap)).run P w' = .ok ((List.range (n * tsize P (telem P t))).map fun j => (arr[j]?).getD undef).toArray w' := by
      intro w' hw'
      unfold Builtin.firstCells
      simp only []
      refine loadCells_run _ fun j hj => ?_
      have : j < arr.size := by omega
      rw [cell_heap hw']
      simp [World.cell?, e2, this]
    obtain ⟨k, rest, hk, hrest, hrun⟩ := append_outM (P := P) (w := w) (w₀ := w) (ty := o.type) (A := some ⟨c, 0, none⟩) (n := n) (c := cap) (L := L) h1 h2 h3 h4 h5 hLb (by omega) hb hb0 hz1 hzs hold rfl
    rw [hvsd] at hrun
    generalize hARR : ((List.range (n * tsize P (telem P t))).map fun j => (arr[j]?).getD undef).toArray ++ vs ++ rest = ARR at hrun
    have hsz1 : ((List.range (n * tsize P (telem P t))).map fun j => (arr[j]?).getD undef).toArray.size = n * tsize P (telem P t) := by simp
    have hARRs : ARR.size = k * tsize P (telem P t) := by
      rw [← hARR]
      simp only [Array.size_append, hsz1]
      rw [hrest, hvs2, hfl, hzs, ← Nat.add_mul, ← Nat.add_mul]
      congr 1; omega
    have hok : ∀ m, ok m → m < w.heap.size := fun m hm => (h.okR m hm).1
    have hρ : ∀ b' m, b' ≠ b → ρ b' = some m → ext ρ b (some w.heap.size) b' = some m := fun b' m hne hm => by simp [ext, hne, hm]
    have hkp := keeps_push (w := w) (o := .cells ARR (telem P t)) hok
    have hlast : ∀ m, m < w.heap.size → (w.heap.push (.cells ARR (telem P t)))[m]? = w.heap[m]? := fun m hm => by simp [Array.getElem?_push, Nat.ne_of_lt hm]
    have hsP : ∀ m el k, w.shape? m = some (el, k) → ({ w with heap := w.heap.push (.cells ARR (telem P t)) } : World).shape? m = some (el, k) := shape_push
    refine ⟨.slice (some ⟨w.heap.size, 0, none⟩) (n + L) k, _, ext ρ b (some w.heap.size), ok, execOp_append ho (by rw [hvx, hvy]; exact hrun), .one (.vec (c := w.heap.size) (n := ARR.size) (by simp [ext]) hk ⟨telem P t, by simp [World.shape?]⟩ (by rw [hARRs]; omega)), ?_, ?_⟩
    · have main : SR (ext ρ b (some w.heap.size)) ok (σ.renew b (cs.map (jC b) ++ repl L z)) a { w with heap := w.heap.push (.cells ARR (telem P t)) } := by
        refine ⟨⟨fun b' cs' hb' => ?_, fun b' hb' => ?_, fun b1 b2 m h1 h2 => ?_, fun m hm => ⟨by have := hok m hm; simp; omega, fun b' hb' => ?_⟩⟩, h.size, fun t' => ?_, h.defers, h.small⟩
        · simp only [renew_H] at hb'
          split at hb'
          · subst b'; cases hb'
            refine ⟨w.heap.size, ARR, telem P t, by simp [ext], by simp, by rw [hARRs]; simp only [List.length_append, List.length_map, hn, hfl, ← Nat.add_mul]; exact Nat.mul_le_mul_right _ hk, fun j hj hj' => ?_⟩
            subst hARR
            by_cases hjn : j < cs.length
            · rw [List.getElem_append_left (by simpa using hjn)]
              rw [Array.getElem_append_left (by simp; omega), Array.getElem_append_left (by simp; omega)]
              simp only [List.getElem_map, List.getElem_toArray, List.getElem_range]
              have hlt : j < arr.size := by omega
              have := e4 j hjn hlt
              rw [show (arr[j]?).getD undef = arr[j] by simp [hlt]]
              exact (this.mono (ρ' := ρ) hkp (fun _ h => h) hsP (fun _ _ h => h)).junked hρ
            · have hj4 : j < cs.length + (repl L z).length := by have := hj; simp only [List.length_append, List.length_map] at this; exact this
              rw [List.getElem_append_right (by simpa using hjn)]
              rw [Array.getElem_append_left (by rw [Array.size_append, hsz1]; omega), Array.getElem_append_right (by rw [hsz1]; omega)]
              have hr := fun w' => (zr w' ok (ext ρ b (some w.heap.size))).2 (j - n * tsize P (telem P t)) (by omega) (by omega)
              simp only [List.length_map, hsz1, hn]
              exact hr _
          · rename_i hne
            simp only [Option.map_eq_some_iff] at hb'
            obtain ⟨cs0, hb0', rfl⟩ := hb'
            obtain ⟨c2, arr2, el2, f1, f2, f3, f4⟩ := h.heap b' cs0 hb0'
            refine ⟨c2, arr2, el2, hρ _ _ hne f1, by rw [hlast c2 (himg h.toHR f1)]; exact f2, by simpa using f3, fun j hj hj' => ?_⟩
            simp only [List.getElem_map]
            exact ((f4 j (by simpa using hj) hj').mono (ρ' := ρ) hkp (fun _ h => h) hsP (fun _ _ h => h)).junked hρ
        · simp only [renew_H] at hb'
          split at hb'
          · cases hb'
          · rename_i hne; simp only [Option.map_eq_none_iff] at hb'; simp [ext, hne, h.dom b' hb']
        · simp only [ext] at h1 h2
          split at h1 <;> split at h2
          · subst b1; subst b2; rfl
          · cases h1; have := himg h.toHR h2; omega
          · cases h2; have := himg h.toHR h1; omega
          · exact h.inj b1 b2 m h1 h2
        · simp only [ext] at hb'
          split at hb'
          · cases hb'; have := hok _ hm; omega
          · exact (h.okR m hm).2 b' hb'
        · simp only [renew_s]
          exact (h.lift (ρ' := ρ) hkp (fun _ h => h) hsP (fun _ _ h => h) t').junked hρ
      exact main.drawn.1
    · refine ⟨by simp, fun m hm _ => hlast m hm, hsP, fun b' m hb' => ?_, fun _ h => h, fun _ h => .inl h, fun b' hb' => .inl (by unfold ext; rw [if_neg (by omega)]), ⟨rfl, rfl⟩⟩
      simp only [ext] at hb'
      split at hb'
      · cases hb'; exact .inr (Nat.le_refl _)
      · exact .inl ⟨b', hb'⟩

end
def AppTyM (P : Program) (t t' : TypeId) (sz bytes : Nat) (z : List C) : Prop := tok P t = true ∧ isSliceD (tdesc P t) = true ∧ tok P (telem P t) = true ∧ tok P t' = true ∧ intD (tdesc P t') = some .i64 ∧ tzero P (telem P t) = some z ∧ z.length = sz ∧ tsize P (telem P t) = sz ∧ tbytes P (telem P t) = bytes ∧ 0 < bytes
/-- append of so many noughts to an own slice that is its block whole. -/
theorem opA_appM {P : Program} {m : Nat} {σ : St} {K : AV → St → Prop} {d : Nat} {ty : TypeId} {pos : String} {af : Array Edge} {g : Option (Nat × Bool)} {x y : Operand} {t t' : TypeId} {α : Type} {f : α → List T} {sz bytes : Nat} (hm : 2 ≤ m) (z0 : α) (hty : AppTyM P t t' sz bytes ((f z0).map .t)) (hf : ∀ x, (f x).length = sz) (xs : List α) {b n L : Nat} (hx : ev σ.s x = .one (.vec b sz 0 n)) (hn : n = xs.length) (hcs : σ.H b = some (cellsL f xs))
    (hy : ev σ.s y = litI .i64 (L : Int)) (hb : (xs.length + L) * bytes ≤ 2 ^ 47) (hbp : b < PIN) (hK : K (.one (.vec b sz 0 (xs.length + L))) (σ.renew b (cellsL f (xs ++ List.replicate L z0)))) :
    OpA P m ⟨some d, .call { callee := .builtin .append, args := #[x, y], argTypes := #[t, t'] }, ty, pos, af, g⟩ σ K := by
  obtain ⟨h1, h2, h3, h4, h5, h6, h7, h8, rfl, h10⟩ := hty
  subst hn
  subst h8
  have := app_vecM (P := P) (σ := σ) (o := ⟨some d, .call { callee := .builtin .append, args := #[x, y], argTypes := #[t, t'] }, ty, pos, af, g⟩) rfl h1 h2 h3 h4 h5 h6 h7 h10 hx hcs (cellsL_length hf) hy hb hbp
  rw [cellsL_jC, cellsL_repl, ← cellsL_append] at this
  exact opA_by hm this rfl hK
end Go.Abs
namespace Go.Abs
open Go
theorem build_own {P : Program} {σ : St} {o : Oper} {d n : Nat} {t : TypeId} {parts : Array (Nat × Operand)} (ho : o.op = .buildSlice t n parts) (h1 : tok P t = true) (h2 : isSliceD (tdesc P t) = true) (h3 : tok P (telem P t) = true)
    (h4 : n * tsize P (telem P t) ≤ 2 ^ 24) (h5 : 0 < n * tsize P (telem P t)) {z cs : List C} (hz : tzero P (telem P t) = some z) (h6 : z.length = tsize P (telem P t))
    (hcs : fillA (fun i => some (i * tsize P (telem P t), tsize P (telem P t))) (repl n z) (parts.toList.map fun p => (p.1, ev σ.s p.2)) = some cs) (hd : σ.H d = none) (hdp : d < PIN) :
    OStep P o σ (.one (.vec d (tsize P (telem P t)) 0 n)) (σ.withH (upd σ.H d (some cs))) := by
  intro ρ ok a w h
  obtain ⟨v, hv1, hv2⟩ := litCs_tzero hz
  obtain ⟨l1, l2⟩ := RCs_litCs (w := w) (ok := ok) (ρ := ρ) hv2
  obtain ⟨z1, z2⟩ := zeros_rel l1 l2 n
  obtain ⟨arr', g1, g2, g3⟩ := fill_rel (w := w) (ok := ok) (ρ := ρ) _ _ (parts.toList.map fun p => (p.1, a.eval p.2)) _ cs _ (by simp) (parts_rel h parts.toList) z1 z2 hcs
  have hcl : cs.length = n * tsize P (telem P t) := by rw [fillA_length hcs, repl_length, h6]
  obtain ⟨s1, s2⟩ := h.push (d := d) hdp hd (cs := cs) (arr := arr') (el := telem P t) (by omega) g3
  refine ⟨.slice (some ⟨w.heap.size, 0, none⟩) n n, _, _, _, ?_, .one (.vec (c := w.heap.size) (n := arr'.size) (by simp [ext]) (Nat.le_refl _) ⟨telem P t, by simp [World.shape?]⟩ (by omega)), s1, s2⟩
  simp only [execOp, ho]
  refine v_run ?_
  unfold Instr.buildSlice
  rw [Sem.run_bind, run_underlying h1, slice_of h2]
  simp only [Result.andThen]
  rw [Sem.run_bind, run_sizeOf h3]
  simp only [Result.andThen]
  rw [if_neg (by omega), if_neg (by omega), Sem.run_bind, run_zeroValue h3 hv1]
  simp only [Result.andThen, Sem.run_bind, Sem.run_pure]
  have e2 : (parts.map fun p => (p.1, a.eval p.2)).toList = parts.toList.map fun p => (p.1, a.eval p.2) := by simp
  rw [e2, ← h6]
  rw [← h6] at g1
  rw [g1]
  simp only [newRow, newObj]
  rfl
theorem opA_build {P : Program} {m : Nat} {σ : St} {K : AV → St → Prop} {o : Oper} {t : TypeId} {n : Nat} {parts : Array (Nat × Operand)} (d sz : Nat) (z : List C) {cs : List C} (ho : o.op = .buildSlice t n parts) (hm : 2 ≤ m)
    (hty : tok P t = true ∧ isSliceD (tdesc P t) = true ∧ tok P (telem P t) = true ∧ tzero P (telem P t) = some z ∧ z.length = sz ∧ tsize P (telem P t) = sz ∧ n * sz ≤ 2 ^ 24 ∧ 0 < n * sz)
    (hcs : fillA (fun i => some (i * sz, sz)) (repl n z) (parts.toList.map fun p => (p.1, ev σ.s p.2)) = some cs) (hd : σ.H d = none) (hdp : d < PIN)
    (hK : K (.one (.vec d sz 0 n)) (σ.withH (upd σ.H d (some cs)))) : OpA P m o σ K := by
  obtain ⟨h1, h2, h3, h4, h5, h6, h7, h8⟩ := hty
  subst h6
  exact opA_by hm (build_own ho h1 h2 h3 h7 h8 h4 h5 hcs hd hdp) rfl hK
end Go.Abs
namespace Go.Abs
open Go
theorem RA.weakS {w : World} {ok : Nat → Prop} {ρ : Nat → Option Nat} {nl : Option Bool} {xs : List (List T)} {v : Value} (h : RA w ok ρ (.one (.t (.seq nl xs))) v) : RA w ok ρ (.one (.t (.seq none xs))) v := by
  cases h with
  | one h => cases h with
    | t h => cases h with
      | seq g1 g2 g0 g3 g4 g5 g6 g7 g8 => exact .one (.t (.seq g1 g2 g0 (fun e => by cases e) (fun e => by cases e) g5 g6 g7 g8))
/-- It may be forgotten whether a slot's slice is nil. -/
theorem gstep_weakS {σ : St} (t : Nat) {nl : Option Bool} {xs : List (List T)} (hs : σ.s t = .one (.t (.seq nl xs))) : GStep σ (σ.put t (.one (.t (.seq none xs)))) := by
  intro ρ ok a w h
  refine ⟨ρ, ok, ⟨h.toHR, h.size, fun t' => ?_, h.defers, h.small⟩, Goes.refl ρ ok w⟩
  have := h.slots t'
  simp only [St.put]
  split
  · subst_vars; rw [hs] at this; exact this.weakS
  · exact this
theorem fz_tup2 {H : Heap} {a b : AV} {x y : TV} (h1 : FzA H a x) (h2 : FzA H b y) : FzA H (.tup [a, b]) (.tup [x, y]) := .tup rfl fun j h h' => by
  match j, h, h' with
  | 0, _, _ => exact h1
  | 1, _, _ => exact h2
  | j + 2, h, _ => simp at h; omega
end Go.Abs
namespace Go.Abs

/-- A limb is below it. -/
abbrev BB : Nat := 1000000000
/-- What limbs are worth. -/
def val : List Nat → Nat
  | [] => 0
  | x :: l => x + BB * val l
/-- A number's limbs. -/
def dig (n : Nat) : List Nat := if h : n = 0 then [] else n % BB :: dig (n / BB)
termination_by n
decreasing_by exact Nat.div_lt_self (Nat.pos_of_ne_zero h) (by decide)
def IsN (xs : List Nat) : Prop := (∀ x ∈ xs, x < BB) ∧ xs.getLast? ≠ some 0
instance (xs : List Nat) : Decidable (IsN xs) := by unfold IsN; exact inferInstance
/-- Limbs without noughts behind. -/
def trimZ : List Nat → List Nat
  | [] => []
  | x :: l => if x = 0 ∧ trimZ l = [] then [] else x :: trimZ l
def held (xs : List Nat) : List Nat := if IsN xs then xs else []
/-- What limbs are worth, 0 of what is no natural. -/
def vN (xs : List Nat) : Nat := val (held xs)

theorem dig_zero : dig 0 = [] := by unfold dig; rfl
theorem dig_pos {n : Nat} (h : n ≠ 0) : dig n = n % BB :: dig (n / BB) := by rw [dig]; rw [dif_neg h]

theorem val_dig (n : Nat) : val (dig n) = n := by
  induction n using Nat.strongRecOn with
  | _ n ih =>
    by_cases h : n = 0
    · subst h; rw [dig_zero]; rfl
    · rw [dig_pos h, val, ih _ (Nat.div_lt_self (Nat.pos_of_ne_zero h) (by decide))]
      exact Nat.mod_add_div n BB

theorem dig_eq_nil {n : Nat} : dig n = [] ↔ n = 0 := by
  constructor
  · intro h; by_cases h0 : n = 0
    · exact h0
    · rw [dig_pos h0] at h; cases h
  · rintro rfl; exact dig_zero

theorem dig_lt (n : Nat) : ∀ x ∈ dig n, x < BB := by
  induction n using Nat.strongRecOn with
  | _ n ih =>
    by_cases h : n = 0
    · subst h; rw [dig_zero]; intro x hx; cases hx
    · rw [dig_pos h]
      intro x hx
      rcases List.mem_cons.1 hx with rfl | hx
      · exact Nat.mod_lt _ (by decide)
      · exact ih _ (Nat.div_lt_self (Nat.pos_of_ne_zero h) (by decide)) x hx

theorem trimZ_lt {xs : List Nat} (h : ∀ x ∈ xs, x < BB) : trimZ xs = dig (val xs) := by
  induction xs with
  | nil => rw [val, dig_zero]; rfl
  | cons x l ih =>
    have hx := h x (by simp)
    have ih := ih fun y hy => h y (by simp [hy])
    unfold trimZ
    rw [val, ih]
    by_cases hv : val l = 0
    · rw [hv, dig_zero]
      by_cases hx0 : x = 0
      · subst hx0; simp [dig_zero]
      · rw [if_neg (by simp [hx0]), dig_pos (by omega)]
        have e1 : (x + BB * 0) % BB = x := by rw [Nat.mul_zero, Nat.add_zero]; exact Nat.mod_eq_of_lt hx
        have e2 : (x + BB * 0) / BB = 0 := by rw [Nat.mul_zero, Nat.add_zero]; exact Nat.div_eq_of_lt hx
        rw [e1, e2, dig_zero]
    · have hne : dig (val l) ≠ [] := by rw [Ne, dig_eq_nil]; exact hv
      rw [if_neg (by simp [hne])]
      rw [dig_pos (n := x + BB * val l) (by simp only [BB]; omega)]
      have e1 : (x + BB * val l) % BB = x := by simp only [BB] at *; omega
      have e2 : (x + BB * val l) / BB = val l := by simp only [BB] at *; omega
      rw [e1, e2]

theorem trimZ_last {xs : List Nat} (h : xs.getLast? ≠ some 0) : trimZ xs = xs := by
  induction xs with
  | nil => rfl
  | cons x l ih =>
    unfold trimZ
    cases l with
    | nil =>
      simp at h
      rw [if_neg (by simp [h])]; rfl
    | cons y t =>
      have : (y :: t).getLast? ≠ some 0 := by simpa using h
      rw [ih this, if_neg (by simp)]

theorem trimZ_snoc {xs : List Nat} : trimZ (xs ++ [0]) = trimZ xs := by
  induction xs with
  | nil => rfl
  | cons x l ih => simp only [List.cons_append, trimZ, ih]

theorem IsN.trimZ {xs : List Nat} (h : IsN xs) : dig (val xs) = xs := by rw [← trimZ_lt h.1, trimZ_last h.2]

theorem dig_last (n : Nat) : (dig n).getLast? ≠ some 0 := by
  induction n using Nat.strongRecOn with
  | _ n ih =>
    by_cases h : n = 0
    · subst h; rw [dig_zero]; simp
    · rw [dig_pos h]
      have := ih _ (Nat.div_lt_self (Nat.pos_of_ne_zero h) (by decide : 1 < BB))
      cases hd : dig (n / BB) with
      | nil =>
        rw [dig_eq_nil] at hd
        have : n < BB := by rcases Nat.div_eq_zero_iff.1 hd with h1 | h1 <;> simp only [BB] at * <;> omega
        simp [Nat.mod_eq_of_lt this, h]
      | cons y t => rw [hd] at this; simpa using this
theorem IsN_dig (n : Nat) : IsN (dig n) := ⟨dig_lt n, dig_last n⟩
theorem held_dig (n : Nat) : held (dig n) = dig n := if_pos (IsN_dig n)
theorem vN_dig (n : Nat) : vN (dig n) = n := by unfold vN; rw [held_dig, val_dig]
theorem IsN_held (xs : List Nat) : IsN (held xs) := by
  unfold held; split
  · assumption
  · exact ⟨fun x hx => (by cases hx), by simp⟩
theorem dig_vN (xs : List Nat) : dig (vN xs) = held xs := (IsN_held xs).trimZ
theorem IsN.inj {xs ys : List Nat} (h : IsN xs) (h' : IsN ys) (e : val xs = val ys) : xs = ys := by rw [← h.trimZ, ← h'.trimZ, e]

theorem val_append (xs ys : List Nat) : val (xs ++ ys) = val xs + BB ^ xs.length * val ys := by
  induction xs with
  | nil => simp [val]
  | cons x l ih =>
    simp only [List.cons_append, val, ih, List.length_cons, Nat.pow_succ]
    rw [Nat.mul_add, ← Nat.mul_assoc, Nat.mul_comm BB (BB ^ l.length)]; omega
theorem val_lt {xs : List Nat} (h : ∀ x ∈ xs, x < BB) : val xs < BB ^ xs.length := by
  induction xs with
  | nil => simp [val]
  | cons x l ih =>
    have hx := h x (by simp)
    have := ih fun y hy => h y (by simp [hy])
    simp only [val, List.length_cons, Nat.pow_succ]
    have : BB * (val l + 1) ≤ BB ^ l.length * BB := by rw [Nat.mul_comm]; exact Nat.mul_le_mul_right _ this
    rw [Nat.mul_add] at this
    simp only [BB] at *; omega
theorem val_ge {xs : List Nat} (h : IsN xs) (hne : xs ≠ []) : BB ^ (xs.length - 1) ≤ val xs := by
  obtain ⟨ys, y, rfl⟩ : ∃ ys y, xs = ys ++ [y] := ⟨xs.dropLast, xs.getLast hne, (List.dropLast_concat_getLast hne).symm⟩
  have hy : y ≠ 0 := by intro e; subst e; exact h.2 (by simp)
  rw [val_append]
  simp only [val, List.length_append, List.length_singleton, Nat.add_sub_cancel, Nat.mul_zero, Nat.add_zero]
  have : BB ^ ys.length * 1 ≤ BB ^ ys.length * y := Nat.mul_le_mul_left _ (by omega)
  omega
theorem val_eq_zero {xs : List Nat} (h : IsN xs) : val xs = 0 ↔ xs = [] := by
  constructor
  · intro e
    have := h.trimZ
    rw [e, dig_zero] at this; exact this.symm
  · rintro rfl; rfl
theorem val_replicate (n : Nat) : val (List.replicate n 0) = 0 := by
  induction n with
  | zero => rfl
  | succ n ih => simp [List.replicate_succ, val, ih]
theorem dig_length_le {n k : Nat} (h : n < BB ^ k) : (dig n).length ≤ k := by
  induction k generalizing n with
  | zero => have : n = 0 := by simpa using h
            subst this; rw [dig_zero]; simp
  | succ k ih =>
    by_cases h0 : n = 0
    · subst h0; rw [dig_zero]; simp
    · rw [dig_pos h0]
      simp only [List.length_cons]
      have : n / BB < BB ^ k := by rw [Nat.pow_succ] at h; exact Nat.div_lt_of_lt_mul (by rw [Nat.mul_comm]; exact h)
      have := ih this; omega
theorem vN_lt (xs : List Nat) : vN xs < BB ^ xs.length := by
  unfold vN held
  split
  · rename_i h; exact val_lt h.1
  · exact Nat.pow_pos (by decide)
theorem held_length (xs : List Nat) : (held xs).length ≤ xs.length := by unfold held; split <;> simp

end Go.Abs
