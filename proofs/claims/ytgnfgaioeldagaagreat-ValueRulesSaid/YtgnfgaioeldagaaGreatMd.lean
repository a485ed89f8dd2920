/- At every input the call answers true and leaves its arguments as they were; no conditions. -/
import Derived.Test.YtgnfgaioeldagaaGreatMc
import Derived.ProofKit
set_option linter.unusedSimpArgs false
set_option linter.unusedVariables false
namespace Go.Abs
open Go Go.ChangeShapes Go.WideShapes Go.RowKit

/-! ### What comes in at a call, as trees -/
section
variable {P : Program}

/-- Trees of a type's cells. -/
inductive WT (P : Program) : TypeId → List T → Prop where
  | bool {t : TypeId} {b : Bool} : P.underlying t = some .bool → WT P t [.lit (.bool b)]
  | int {t : TypeId} {k : IntKind} {n : Int} : P.underlying t = some (.int k) → (Lit.int k n).wf = true → WT P t [.lit (.int k n)]
  | str {t : TypeId} {s : ByteArray} : P.underlying t = some .string → s.size ≤ maxLen → WT P t [.lit (.string s)]
  | slice {t e : TypeId} {xs : List (List T)} : P.underlying t = some (.slice e) → (∀ x, x ∈ xs → WT P e x) → (∀ x, x ∈ xs → x.length = P.cellsOf e) → xs.length ≤ maxLen → WT P t [.seq none xs]
  | struct {t : TypeId} {fs : Array Field} {tss : List (List T)} : P.underlying t = some (.struct fs) → tss.length = fs.size → (∀ i (h : i < fs.size) (h' : i < tss.length), WT P fs[i].type tss[i]) → WT P t tss.flatten

def tiled (P : Program) : Nat → List Field → Option Nat
  | o, [] => some o
  | o, f :: l => if f.offset = o then tiled P (o + P.cellsOf f.type) l else none
def plainAtB (P : Program) (S : TypeId → Bool) (t : TypeId) : Bool :=
  match P.underlying t with
  | some .bool | some (.int _) | some .string => true
  | some (.slice e) => S e && decide (0 < P.cellsOf e)
  | some (.struct fs) => fs.toList.all (fun f => S f.type) && (tiled P 0 fs.toList == some (P.cellsOf t))
  | _ => false

def RTs (w : World) (ok : Nat → Prop) (ts : List T) (cs : List Value) : Prop := ts.length = cs.length ∧ ∀ j (h : j < ts.length) (h' : j < cs.length), RT w ok ts[j] cs[j]
theorem RTs.one {w : World} {ok : Nat → Prop} {x : T} {v : Value} (h : RT w ok x v) : RTs w ok [x] [v] := ⟨rfl, fun j hj hj' => by
  have : j = 0 := by simpa using hj
  subst this; exact h⟩
theorem RTs.append {w : World} {ok : Nat → Prop} {xs ys : List T} {us vs : List Value} (h : RTs w ok xs us) (h' : RTs w ok ys vs) : RTs w ok (xs ++ ys) (us ++ vs) := by
  obtain ⟨h1, h2⟩ := h; obtain ⟨h3, h4⟩ := h'
  refine ⟨by simp [h1, h3], fun j hj hj' => ?_⟩
  by_cases hlt : j < xs.length
  · rw [List.getElem_append_left hlt, List.getElem_append_left (by omega)]; exact h2 j hlt (by omega)
  · rw [List.getElem_append_right (by omega), List.getElem_append_right (by omega)]
    simp only [List.length_append] at hj hj'
    have := h4 (j - xs.length) (by omega) (by omega)
    simpa only [h1] using this

theorem tiled_flatten {cs : List Value} : ∀ (l : List Field) (o : Nat), tiled P o l = some cs.length → cs.drop o = (l.map fun f => (cs.drop f.offset).take (P.cellsOf f.type)).flatten := by
  intro l
  induction l with
  | nil => intro o h; simp only [tiled, Option.some.injEq] at h; subst h; simp
  | cons f l ih =>
    intro o h
    simp only [tiled] at h
    split at h
    · rename_i ho
      rw [List.map_cons, List.flatten_cons, ← ih _ h, ho]
      rw [show cs.drop (o + P.cellsOf f.type) = (cs.drop o).drop (P.cellsOf f.type) by rw [List.drop_drop]]
      exact (List.take_append_drop _ _).symm
    · cases h

variable {H : Type} {enc : TypeId × Value → H} {w : World} {sp : Nat → Bool} {held : Bool}

theorem RTs.flatten {w : World} {ok : Nat → Prop} : ∀ {tss : List (List T)} {css : List (List Value)}, tss.length = css.length → (∀ i (h : i < tss.length) (h' : i < css.length), RTs w ok tss[i] css[i]) → RTs w ok tss.flatten css.flatten
  | [], [], _, _ => ⟨rfl, fun j h _ => absurd h (by simp)⟩
  | x :: l, y :: l', hl, h => by
    rw [List.flatten_cons, List.flatten_cons]
    exact (h 0 (by simp) (by simp)).append (RTs.flatten (by simpa using hl) fun i hi hi' => h (i + 1) (by simpa using hi) (by simpa using hi'))
  | [], _ :: _, hl, _ => by simp at hl
  | _ :: _, [], hl, _ => by simp at hl

theorem cells_some {w : World} {b : Nat} {a : Addr} {n : Nat} {cs : List Value} (h : w.cells? b a n = some cs) : cs.length = n ∧ ∀ i (hi : i < cs.length), w.cell? (a.add i) = some cs[i] := by
  have := World.cells?_some h
  refine ⟨this.2.1, fun i hi => ?_⟩
  have h2 := this.2.2 i (by have := this.2.1; omega)
  rw [h2, List.getElem?_eq_getElem hi]

theorem choose_list {α : Type} {n : Nat} {p : Nat → α → Prop} (h : ∀ i, i < n → ∃ x, p i x) : ∃ l : List α, l.length = n ∧ ∀ i (hi : i < l.length), p i l[i] := by
  induction n with
  | zero => exact ⟨[], rfl, fun i hi => absurd hi (by simp)⟩
  | succ n ih =>
    obtain ⟨l, h1, h2⟩ := ih (fun i hi => h i (by omega))
    obtain ⟨x, hx⟩ := h n (by omega)
    refine ⟨l ++ [x], by simp [h1], fun i hi => ?_⟩
    by_cases hlt : i < l.length
    · rw [List.getElem_append_left hlt]; exact h2 i hlt
    · have : i = n := by simp at hi; omega
      subst this
      rw [List.getElem_append_right (by omega)]
      simpa [h1] using hx

theorem cell_some {w : World} {a : Addr} {z : Value} (h : w.cell? a = some z) : a = ⟨a.block, a.off, none⟩ ∧ a.block < w.heap.size := by
  obtain ⟨b, o, s⟩ := a
  cases hh : w.heap[b]? with
  | none => simp [World.cell?, hh] at h
  | some ob =>
    have hlt := (Array.getElem?_eq_some_iff.1 hh).1
    cases s with
    | none => exact ⟨rfl, hlt⟩
    | some _ => cases ob <;> simp [World.cell?, hh] at h
theorem add_add (b o i j : Nat) : ((⟨b, o, none⟩ : Addr).add i).add j = ⟨b, o + (i + j), none⟩ := by
  unfold Addr.add
  by_cases hi : i = 0 <;> by_cases hj : j = 0 <;> simp [hi, hj, Nat.add_assoc]

/-- What is read of a plain type is a tree of that type. -/
theorem trod_tree {S : TypeId → Bool} (hS : ∀ t, S t = true → plainAtB P S t = true) : ∀ (fuel : Nat) (t : TypeId) (cs : List Value) (x : DataW H × List MemPlace), S t = true → DataW.trod enc P w 0 sp held fuel t cs = some x →
    ∃ ts, RTs w (· < w.heap.size) ts cs ∧ WT P t ts := by
  intro fuel
  induction fuel with
  | zero => intro t cs x _ h; simp [DataW.trod] at h
  | succ fuel ih =>
    intro t cs x hSt h
    have hp := hS t hSt
    unfold plainAtB at hp
    split at hp
    · rename_i ht
      obtain ⟨b, rfl, _⟩ := DataW.trod_bool ht h
      exact ⟨[.lit (.bool b)], .one (.lit rfl), .bool ht⟩
    · rename_i k ht
      obtain ⟨n, rfl, _, hw⟩ := DataW.trod_int ht h
      exact ⟨[.lit (.int k n)], .one (.lit rfl), .int ht hw⟩
    · rename_i ht
      obtain ⟨s, rfl, _, hs⟩ := DataW.trod_string ht h
      exact ⟨[.lit (.string s)], .one (.lit rfl), .str ht hs⟩
    · rename_i e ht
      rw [Bool.and_eq_true, decide_eq_true_eq] at hp
      rcases DataW.trod_slice ht h with ⟨rfl, _⟩ | ⟨a, len, cap, elems, rest, n, hn, rfl, _, _, hl, hm, hlen, hel, _, _⟩
      · exact ⟨[.seq none []], .one (.seq (sz := 0) (u := fun _ _ => undef) (blk := 0) (off := 0) rfl (Nat.le_refl _) (fun _ => rfl) (by simp) (by simp) (by simp) (by simp) (fun i hi => absurd hi (by simp)) (fun i hi => absurd hi (by simp))), .slice ht (by simp) (by simp) (by simp)⟩
      · cases hn
        have each : ∀ i, i < len → ∃ y : List T × List Value, y.2.length = P.cellsOf e ∧ (∀ j (hj : j < y.2.length), w.cell? ((a.add (i * P.cellsOf e)).add j) = some y.2[j]) ∧ RTs w (· < w.heap.size) y.1 y.2 ∧ WT P e y.1 := by
          intro i hi
          have h1 := hel i hi
          rw [List.getElem?_eq_getElem (by omega), Option.bind_eq_some_iff] at h1
          obtain ⟨cs', hcs, hy⟩ := h1
          obtain ⟨c1, c2⟩ := cells_some hcs
          obtain ⟨ts, r1, r2⟩ := ih e cs' _ hp.1 hy
          refine ⟨(ts, cs'), c1, fun j hj => ?_, r1, r2⟩
          exact c2 j hj
        obtain ⟨l, l1, l2⟩ := choose_list each
        have hsp : 0 < len → a = ⟨a.block, a.off, none⟩ ∧ a.block < w.heap.size := fun h0 => by
          obtain ⟨q1, q2, _⟩ := l2 0 (by omega)
          have := q2 0 (by omega)
          exact cell_some (z := (l[0]).2[0]) (by rw [← this]; simp [Addr.add])
        have hlen1 : (l.map (·.1)).length = len := by simp [l1]
        refine ⟨[.seq none (l.map (·.1))], .one (.seq (sz := P.cellsOf e) (u := fun i j => ((l[i]?).bind fun y => y.2[j]?).getD undef) (blk := a.block) (off := a.off) hlen1.symm hl (by simp) (by simp) (by simp) ?_ ?_ ?_ ?_), .slice ht ?_ ?_ (by rw [hlen1]; omega)⟩
        · intro y hy
          obtain ⟨z, hz, rfl⟩ := List.mem_map.1 hy
          obtain ⟨i, hi, rfl⟩ := List.mem_iff_getElem.1 hz
          obtain ⟨q1, _, q3, _⟩ := l2 i hi
          rw [q3.1, q1]
        · intro hne
          have h0 : 0 < len := by
            rcases Nat.eq_zero_or_pos len with h0 | h0
            · exfalso; apply hne; rw [← List.length_eq_zero_iff, hlen1]; exact h0
            · exact h0
          exact ⟨by rw [← (hsp h0).1], (hsp h0).2⟩
        · intro i hi j hj
          have hi' : i < l.length := by simpa using hi
          obtain ⟨q1, q2, q3, _⟩ := l2 i hi'
          simp only [List.getElem_map] at hj
          have hj' : j < l[i].2.length := by rw [← q3.1]; exact hj
          have := q2 j hj'
          rw [List.getElem?_eq_getElem hi']
          simp only [Option.bind_some, List.getElem?_eq_getElem hj', Option.getD_some]
          rw [← this]
          have ha := (hsp (by omega)).1
          rw [ha, add_add]
        · intro i hi j hj
          have hi' : i < l.length := by simpa using hi
          obtain ⟨q1, q2, q3, _⟩ := l2 i hi'
          simp only [List.getElem_map] at hj ⊢
          have hj' : j < l[i].2.length := by rw [← q3.1]; exact hj
          rw [List.getElem?_eq_getElem hi']
          simp only [Option.bind_some, List.getElem?_eq_getElem hj', Option.getD_some]
          exact q3.2 j hj hj'
        · intro y hy
          obtain ⟨z, hz, rfl⟩ := List.mem_map.1 hy
          obtain ⟨i, hi, rfl⟩ := List.mem_iff_getElem.1 hz
          exact (l2 i hi).2.2.2
        · intro y hy
          obtain ⟨z, hz, rfl⟩ := List.mem_map.1 hy
          obtain ⟨i, hi, rfl⟩ := List.mem_iff_getElem.1 hz
          obtain ⟨q1, _, q3, _⟩ := l2 i hi
          rw [q3.1, q1]
    · rename_i fs ht
      rw [Bool.and_eq_true, List.all_eq_true, beq_iff_eq] at hp
      obtain ⟨xs, n, hn, _, hl, hlen, hf⟩ := DataW.trod_struct ht h
      cases hn
      have each : ∀ i, i < fs.size → ∃ ts : List T, ∀ (hi : i < fs.size), RTs w (· < w.heap.size) ts ((cs.drop fs[i].offset).take (P.cellsOf fs[i].type)) ∧ WT P fs[i].type ts := by
        intro i hi
        have h1 := hf i fs[i] (by simp [hi])
        rw [List.getElem?_eq_getElem (by omega)] at h1
        obtain ⟨ts, r1, r2⟩ := ih _ _ _ (hp.1 _ (by simp)) h1
        exact ⟨ts, fun _ => ⟨r1, r2⟩⟩
      obtain ⟨l, l1, l2⟩ := choose_list each
      refine ⟨l.flatten, ?_, .struct ht l1 fun i hi hi' => (l2 i hi' hi).2⟩
      have hcs := tiled_flatten (cs := cs) fs.toList 0 (by rw [hl]; exact hp.2)
      rw [List.drop_zero] at hcs
      rw [hcs]
      refine .flatten (by simp [l1]) fun i hi hi' => ?_
      simp only [List.getElem_map, Array.getElem_toList]
      exact (l2 i hi (by omega)).1
    · cases hp

/-- An argument's tree. -/
def WTV (P : Program) (t : TypeId) (tv : TV) : Prop :=
  match P.underlying t with
  | some (.struct _) => ∃ ts, tv = .agg ts ∧ WT P t ts
  | _ => ∃ x, tv = .one x ∧ WT P t [x]

theorem RTs.inv_one {w : World} {ok : Nat → Prop} {ts : List T} {v : Value} (h : RTs w ok ts [v]) : ∃ x, ts = [x] ∧ RT w ok x v := by
  obtain ⟨h1, h2⟩ := h
  match ts, h1 with
  | [x], _ => exact ⟨x, rfl, h2 0 (by simp) (by simp)⟩

theorem arg_tree {S : TypeId → Bool} (hS : ∀ t, S t = true → plainAtB P S t = true) {t : TypeId} {v : Value} {d : DataW H} {p : List MemPlace} {r : Reach} {base : Nat} (hSt : S t = true) (hval : Value.okWide P w r base t v)
    (h : DataW.Trod enc P w 0 sp held t v d p) : ∃ tv : TV, RA w (· < w.heap.size) noρ (emb tv) v ∧ WTV P t tv := by
  obtain ⟨fuel, hf⟩ := h
  obtain ⟨ts, h1, h2⟩ := trod_tree hS fuel t _ _ hSt hf
  have hp := hS t hSt
  unfold plainAtB at hp
  unfold Value.okWide at hval
  unfold WTV
  split at hp
  · rename_i ht
    rw [ht] at hval ⊢
    have hc : v.cells.toList = [v] := by
      cases v <;> simp [Cell.okWide, Cell.ok, ht, Value.cells] at hval ⊢
    rw [hc] at h1
    obtain ⟨x, rfl, hx⟩ := h1.inv_one
    exact ⟨.one x, .one (.t hx), x, rfl, h2⟩
  · rename_i k ht
    rw [ht] at hval ⊢
    have hc : v.cells.toList = [v] := by
      cases v <;> simp [Cell.okWide, Cell.ok, ht, Value.cells] at hval ⊢
    rw [hc] at h1
    obtain ⟨x, rfl, hx⟩ := h1.inv_one
    exact ⟨.one x, .one (.t hx), x, rfl, h2⟩
  · rename_i ht
    rw [ht] at hval ⊢
    have hc : v.cells.toList = [v] := by
      cases v <;> simp [Cell.okWide, Cell.ok, ht, Value.cells] at hval ⊢
    rw [hc] at h1
    obtain ⟨x, rfl, hx⟩ := h1.inv_one
    exact ⟨.one x, .one (.t hx), x, rfl, h2⟩
  · rename_i e ht
    rw [ht] at hval ⊢
    have hc : v.cells.toList = [v] := by
      cases v <;> simp [Cell.okWide, Cell.ok, ht, Value.cells] at hval ⊢
    rw [hc] at h1
    obtain ⟨x, rfl, hx⟩ := h1.inv_one
    exact ⟨.one x, .one (.t hx), x, rfl, h2⟩
  · rename_i fs ht
    rw [ht] at hval ⊢
    obtain ⟨cs, rfl, _, _⟩ := hval
    refine ⟨.agg ts, ?_, ts, rfl, h2⟩
    obtain ⟨r1, r2⟩ := h1
    have r1' : ts.length = cs.size := by simpa [Value.cells] using r1
    refine .agg (by simpa using r1'.symm) fun j hj hj' => ?_
    have hj2 : j < ts.length := by simpa using hj
    have := r2 j hj2 (by simpa [Value.cells] using hj')
    simp only [List.getElem_map]
    exact .t (by simpa [Value.cells] using this)
  · cases hp

/-- Trees of several arguments. -/
inductive WTVs (P : Program) : List TypeId → List TV → Prop where
  | nil : WTVs P [] []
  | cons {t : TypeId} {ts : List TypeId} {x : TV} {xs : List TV} : WTV P t x → WTVs P ts xs → WTVs P (t :: ts) (x :: xs)

theorem args_tree {S : TypeId → Bool} (hS : ∀ t, S t = true → plainAtB P S t = true) {r : Reach} {base : Nat} : ∀ {ts : List TypeId} {vs : List Value} {ds : List (DataW H)} {p : List MemPlace}, (∀ t ∈ ts, S t = true) →
    (∀ (j : Nat) t v, ts[j]? = some t → vs[j]? = some v → Value.okWide P w r base t v) → DataW.TrodAll enc P w 0 sp held ts vs ds p →
    ∃ tvs : List TV, tvs.length = vs.length ∧ (∀ i (h : i < tvs.length) (h' : i < vs.length), RA w (· < w.heap.size) noρ (emb tvs[i]) vs[i]) ∧ WTVs P ts tvs
  | [], _, _, _, _, _, h => by
    obtain ⟨rfl, rfl, rfl⟩ := trodAll_nil h
    exact ⟨[], rfl, fun i h => absurd h (by simp), .nil⟩
  | t :: ts, _, _, _, hSt, hval, h => by
    obtain ⟨v, vs, d, ds, a, b, rfl, rfl, rfl, h1, h2⟩ := trodAll_cons h
    obtain ⟨tvs, e1, e2, e3⟩ := args_tree hS (fun t ht => hSt t (by simp [ht])) (fun j t v ht hv => hval (j + 1) t v (by simpa using ht) (by simpa using hv)) h2
    obtain ⟨tv, r1, r2⟩ := arg_tree hS (hSt t (by simp)) (hval 0 t v rfl rfl) h1
    refine ⟨tv :: tvs, by simp [e1], fun i hi hi' => ?_, .cons r2 e3⟩
    cases i with
    | zero => exact r1
    | succ i => exact e2 i (by simpa using hi) (by simpa using hi')

theorem trodAll_stays {ts : List TypeId} (hl : laidOutB P = true) (hr : ∀ t ∈ ts, P.readableRec t = true ∧ t < P.types.size) {W W' : World} {sp' : Nat → Bool} : ∀ {vs : List Value} {ds : List (DataW H)} {ps : List MemPlace},
    DataW.TrodAll enc P W 0 (fun _ => true) true ts vs ds ps → (∀ p ∈ ps, W.sameAt W' p) → (∀ p ∈ ps, sp' p.block = true) → DataW.TrodAll enc P W' 0 sp' true ts vs ds ps := by
  induction ts with
  | nil =>
    intro vs ds ps h _ _
    obtain ⟨rfl, rfl, rfl⟩ := trodAll_nil h
    rfl
  | cons t ts ih =>
    intro vs ds ps h h1 h2
    obtain ⟨v, vs1, d, ds1, a, b, rfl, rfl, rfl, h3, h4⟩ := trodAll_cons h
    have hrt := hr t (by simp)
    exact ⟨a, b, WideElems.Trod_stays hl hrt.1 hrt.2 h3 (fun p hp => h1 p (by simp [hp])) (fun p hp => h2 p (by simp [hp])),
      ih (fun t ht => hr t (by simp [ht])) h4 (fun p hp => h1 p (by simp [hp])) (fun p hp => h2 p (by simp [hp])), rfl⟩

/-- A law that answers true at all trees keeps to its row. -/
theorem row_of_pcall {s : ChangeSpec} {f : FuncId} {fn : Func} {tb : TypeId} {S : TypeId → Bool} (hS : ∀ t, S t = true → plainAtB P S t = true) (hl : laidOutB P = true) (hpar : ∀ t ∈ fn.params.toList, S t = true ∧ P.readableRec t = true ∧ t < P.types.size)
    (hres : fn.resultTypes = #[tb]) (htb : P.underlying tb = some .bool) (hvars : s.vars = [])
    (hfn : ∀ ds : List (DataW H), ds.length = fn.params.size → s.fn H ds = { results := [.lit (.bool true)], args := ds })
    (hp : ∀ tvs : List TV, WTVs P fn.params.toList tvs → PCall P f tvs (.one (.lit (.bool true))))
    {W : World} {base : Nat} {args : Array Value} {ds gs : List (DataW H)} {before : List MemPlace}
    (hval : ∀ (j : Nat) t v, fn.params[j]? = some t → args[j]? = some v → Value.okWide P W .any base t v)
    (hW : DataW.Whole enc P fn.params.toList s.vars false W args.toList ds gs before) :
    Calls P f args W fun e W' => ∃ v, e = .returned v ∧ s.post enc P fn false true false false W args v W' := by
  have hW' := hW
  obtain ⟨p, q, hA, hV, rfl, hfz, hnd⟩ := hW
  obtain ⟨tvs, e1, e2, e3⟩ := args_tree hS (fun t ht => (hpar t ht).1) (fun j t v ht hv => hval j t v (by simpa using ht) (by simpa using hv)) hA
  rw [hvars] at hV
  have hgs : gs = [] ∧ q = [] := by
    cases gs with
    | nil => exact ⟨rfl, hV⟩
    | cons _ _ => exact hV.elim
  obtain ⟨rfl, rfl⟩ := hgs
  have hra : RArgs W (· < W.heap.size) noρ (tvs.map emb) args := ⟨by simpa using e1.symm, fun i hi hi' => by
    simp only [List.getElem_map]
    have := e2 i (by simpa using hi) (by simpa using hi')
    simpa using this⟩
  refine ((hp tvs e3).2 (· < W.heap.size) W args (fun n hn => hn) hra).mono fun e W' ⟨v, ok', he, hr, hg, _⟩ => ⟨v, he, ?_⟩
  have hv : v = .bool true := by
    cases hr with
    | one hr => cases hr with
      | t hr => cases hr with
        | lit _ => rfl
  subst hv
  have hlen : ds.length = fn.params.size := by
    have : ∀ {ts : List TypeId} {vs : List Value} {ds : List (DataW H)} {p : List MemPlace}, DataW.TrodAll enc P W 0 (fun _ => true) true ts vs ds p → ds.length = ts.length := by
      intro ts
      induction ts with
      | nil => intro vs ds p h; obtain ⟨rfl, rfl, rfl⟩ := trodAll_nil h; rfl
      | cons t ts ih =>
        intro vs ds p h
        obtain ⟨v, vs1, d, ds1, a, b, rfl, rfl, rfl, h3, h4⟩ := trodAll_cons h
        simp [ih h4]
    simpa using this hA
  have hsame : ∀ k, k < W.heap.size → W'.heap[k]? = W.heap[k]? := fun k hk => hg.same k hk fun b hb => by cases hb
  have hlt : ∀ x ∈ p, x.block < W.heap.size := fun x hx => by simpa using hW'.lt x (by simpa using hx)
  have hsp := hfn ds hlen
  refine ⟨ds, [], p ++ [], [], p, [], hW', ?_, ?_, ?_, ?_, fun h => nomatch h⟩
  · rw [List.append_nil, hsp, hres]
    exact trodAll_mk1 (shut_bool htb true)
  · rw [List.append_nil, hsp]
    exact trodAll_stays hl (fun t ht => (hpar t ht).2) hA (fun x hx => by
      have hb := hsame _ (hlt x hx)
      cases x with
      | cell b o => exact World.cell?_of_block (w := W) hb
      | map b => exact hb) (fun x hx => by simpa using hlt x hx)
  · rw [List.append_nil, hsp, hvars]; rfl
  · refine ⟨hg.env.1, hg.env.2, fun i hi => ?_⟩
    have := (World.keptBut_refl W (fun p' => p' ∈ p ++ [] ∧ (p' ∈ ([] : List MemPlace) ∨ p' ∈ p ∨ p' ∈ ([] : List MemPlace)))).2.2 i hi
    rw [hsame i hi]
    exact this
end
end Go.Abs
