/- At every input the call answers true and leaves its arguments as they were; no conditions. -/
import Derived.Test.YtgnfgaioeldagaaGreatMh
set_option linter.unusedSimpArgs false
set_option linter.unusedVariables false
namespace Go.Abs
open Go
theorem litB_any {w w' : World} {ok ok' : Nat → Prop} {ρ ρ' : Nat → Option Nat} {y : Bool} {u : Value} (h : RA w ok ρ (litB y) u) : RA w' ok' ρ' (litB y) u := by
  cases h with
  | one h3 => cases h3 with | t h4 => cases h4 with | lit h5 => exact .one (.t (.lit h5))
/-- A pure call that is handed an own slice, of whose answer only the last part, a truth, is kept: the slice stays own. -/
theorem call_keep3 {P : Program} {m : Nat} {f : FuncId} {ars : List AV} {tvs : List TV} {r1 r2 : TV} {y : Bool} {σ : St} {K : AV → St → Prop} (b sz len : Nat) {x : T} {cs : List C} (hm : m = 2) (hp : PCall P f tvs (.tup [r1, r2, .one (.lit (.bool y))])) (hb : σ.H b = some cs) (hx : TreeOf cs sz len x)
    (has : ars.map (fA b sz len x) = tvs.map emb) (hK : K (.tup [.junk, .junk, litB y]) σ) : CallA P m f ars σ K := by
  refine .inr (.inr (.inl ⟨hm, _, σ, rfl, ⟨hp.1, fun ρ ok a w vs h hv => ?_⟩, hK⟩))
  obtain ⟨ρ', ok', s1, g1, hA⟩ := frz_sound h hb hx
  have hv' : RArgs w ok' noρ (tvs.map emb) vs := by
    rw [← has]
    refine ⟨by rw [List.length_map]; exact hv.1, fun i hi hi' => ?_⟩
    have hi2 : i < ars.length := by simpa using hi
    have e : (ars.map (fA b sz len x))[i] = emb (tvs[i]'(by have := congrArg List.length has; simp at this; omega)) := by
      simp only [has, List.getElem_map]
    have h1 : RA w ok' ρ' ((ars.map (fA b sz len x))[i]'(by simpa using hi2)) vs[i] := by simp only [List.getElem_map]; exact hA (hv.2 i hi2 hi')
    rw [e]
    exact RA_tree h1 _ e
  refine (hp.2 ok' w vs (fun n hn => (s1.okR n hn).1) hv').mono ?_
  rintro e w' ⟨v, ok'', rfl, hr, hg, hlt⟩
  have hg' : Goes noρ ok w noρ ok w' := ⟨hg.size, hg.same, hg.shape, hg.img, fun _ h => h, fun _ h => .inl h, hg.pin, hg.env⟩
  obtain ⟨t1, t2⟩ := h.pure hg' (fun n hn => Nat.lt_of_lt_of_le (h.okR n hn).1 hg.size)
  refine ⟨v, ρ, ok, rfl, ?_, t1, t2⟩
  have hr' : RA w' ok'' noρ (.tup [emb r1, emb r2, litB y]) v := hr
  cases hr' with
  | tup h1 h2 =>
    refine .tup h1 fun j hj hj' => ?_
    match j, hj with
    | 0, _ => exact .junk
    | 1, _ => exact .junk
    | 2, _ => exact litB_any (h2 2 (by show 2 < 3; decide) hj')
end Go.Abs
namespace Go.Abs
open Go
section
variable {P : Program} {m : Nat} {d : Nat} {ty : TypeId} {pos : String} {af : Array Edge} {g : Option (Nat × Bool)} {σ : St} {K : AV → St → Prop}
def strOk : AV → AV → Prop
  | .one (.t (.lit (.string s))), i => inRange i s.size
  | _, _ => False
def strV : AV → Nat → AV
  | .one (.t (.lit (.string s))), i => litI .u8 (s[i]!).toNat
  | _, _ => .junk
@[go_sem] theorem st_index {t : TypeId} {x y : Operand} : stepA P m ⟨some d, .index t x y, ty, pos, af, g⟩ σ K =
    (if isArrayD (tdesc P t) = true then ((tok P t = true ∧ tok P (telem P t) = true ∧ inRange (ev σ.s y) (arrLen (tdesc P t)) ∧ aggOk (idx (ev σ.s y) * tsize P (telem P t) + (if tagg P (telem P t) then tsize P (telem P t) else 1)) (ev σ.s x)) ∧
        K (if tagg P (telem P t) then .agg (((aggCells (ev σ.s x)).drop (idx (ev σ.s y) * tsize P (telem P t))).take (tsize P (telem P t))) else .one (((aggCells (ev σ.s x)).drop (idx (ev σ.s y) * tsize P (telem P t))).headD default)) σ)
      else ((tok P t = true ∧ tdesc P t = .string ∧ strOk (ev σ.s x) (ev σ.s y)) ∧ K (strV (ev σ.s x) (idx (ev σ.s y))) σ)) := by
  simp only [stepA, simpleOp, if_true, SimpA, opOk, opV, opH, withH_self]
  by_cases h : isArrayD (tdesc P t) = true
  · have h2 : ¬ tdesc P t = .string := fun e => by rw [e] at h; cases h
    rw [if_pos h]
    simp only [h, h2, false_and, or_false, true_and]
    cases ev σ.s x <;> simp [aggOk, aggCells]
  · rw [if_neg h]
    simp only [h, Bool.false_eq_true, false_and, false_or]
    refine propext ⟨fun ⟨⟨h1, h2, h3⟩, h4⟩ => ?_, fun ⟨⟨h1, h2, h3⟩, h4⟩ => ?_⟩
    · revert h3 h4
      generalize ev σ.s x = v
      intro h3 h4
      match v, h3, h4 with
      | .one (.t (.lit (.string s))), h3, h4 => exact ⟨⟨h1, h2, h3⟩, h4⟩
    · revert h3 h4
      generalize ev σ.s x = v
      intro h3 h4
      match v, h3, h4 with
      | .one (.t (.lit (.string s))), h3, h4 => exact ⟨⟨h1, h2, h3⟩, h4⟩
end
/-! ### A family of own blocks becomes trees -/
def fF (b n sz len : Nat) (x : Nat → T) : C → C
  | .ptr b' o => if b ≤ b' ∧ b' < b + n then .t .junk else .ptr b' o
  | .vec b' s o m => if b ≤ b' ∧ b' < b + n then (if s = sz ∧ o = 0 ∧ m = len then .t (x (b' - b)) else .t .junk) else .vec b' s o m
  | .fn f caps => if caps.any (fun p => decide (b ≤ p.1 ∧ p.1 < b + n)) then .t .junk else .fn f caps
  | .t y => .t y
def fFA (b n sz len : Nat) (x : Nat → T) : AV → AV
  | .one c => .one (fF b n sz len x c)
  | .agg cs => .agg (cs.map (fF b n sz len x))
  | .iptr cs => .iptr cs
  | .tup [] => .tup []
  | _ => .junk
def St.frzF (σ : St) (b n sz len : Nat) (x : Nat → T) : St := ⟨σ.n, fun t => fFA b n sz len x (σ.s t), fun m => if b ≤ m ∧ m < b + n then none else (σ.H m).map (·.map (fF b n sz len x))⟩
section
variable {σ : St} {b n sz len : Nat} {x : Nat → T}
@[go_sem] theorem frzF_n : (σ.frzF b n sz len x).n = σ.n := rfl
@[go_sem] theorem frzF_s {t : Nat} : (σ.frzF b n sz len x).s t = fFA b n sz len x (σ.s t) := rfl
@[go_sem] theorem frzF_H {m : Nat} : (σ.frzF b n sz len x).H m = if b ≤ m ∧ m < b + n then none else (σ.H m).map (·.map (fF b n sz len x)) := rfl
@[go_sem] theorem fFA_one {c : C} : fFA b n sz len x (.one c) = .one (fF b n sz len x c) := rfl
@[go_sem] theorem fFA_agg {cs : List C} : fFA b n sz len x (.agg cs) = .agg (cs.map (fF b n sz len x)) := rfl
@[go_sem] theorem fFA_iptr {cs : List T} : fFA b n sz len x (.iptr cs) = .iptr cs := rfl
@[go_sem] theorem fFA_junk : fFA b n sz len x .junk = .junk := rfl
@[go_sem] theorem fFA_undef : fFA b n sz len x undefA = undefA := rfl
@[go_sem] theorem fFA_litI {k : IntKind} {i : Int} : fFA b n sz len x (litI k i) = litI k i := rfl
@[go_sem] theorem fFA_litB {y : Bool} : fFA b n sz len x (litB y) = litB y := rfl
@[go_sem] theorem fF_t {y : T} : fF b n sz len x (.t y) = .t y := rfl
@[go_sem] theorem fF_ptr {b' o : Nat} : fF b n sz len x (.ptr b' o) = if b ≤ b' ∧ b' < b + n then .t .junk else .ptr b' o := rfl
@[go_sem] theorem fF_vec {b' s o m : Nat} : fF b n sz len x (.vec b' s o m) = if b ≤ b' ∧ b' < b + n then (if s = sz ∧ o = 0 ∧ m = len then .t (x (b' - b)) else .t .junk) else .vec b' s o m := rfl
@[go_sem] theorem fF_cells {α : Type} {f : α → List T} {xs : List α} : (cellsL f xs).map (fF b n sz len x) = cellsL f xs := by unfold cellsL; rw [List.map_map]; rfl
theorem fF_rows {k m : Nat} (h : k + m ≤ n) : (rowsC (b + k) sz len m).map (fF b n sz len x) = cellsL (fun i => [x (k + i)]) (List.range m) := by
  have e : cellsL (fun i => [x (k + i)]) (List.range m) = (List.range m).map fun i => C.t (x (k + i)) := by
    unfold cellsL
    generalize List.range m = l
    induction l with
    | nil => rfl
    | cons i l ih => rw [List.map_cons, List.flatten_cons, List.map_append, ih]; rfl
  rw [e]
  unfold rowsC
  rw [List.map_map]
  refine List.map_congr_left fun i hi => ?_
  have := List.mem_range.1 hi
  show (if b ≤ b + k + i ∧ b + k + i < b + n then _ else _) = _
  rw [if_pos ⟨by omega, by omega⟩, if_pos ⟨rfl, rfl, rfl⟩, show b + k + i - b = k + i by omega]
theorem fF_succ (c : C) : fC (b + n) sz len (x n) (fF b n sz len x c) = fF b (n + 1) sz len x c := by
  cases c with
  | t y => rfl
  | ptr b' o =>
    simp only [fF]
    by_cases h1 : b ≤ b' ∧ b' < b + n
    · rw [if_pos h1, if_pos ⟨h1.1, by omega⟩]; rfl
    · rw [if_neg h1]
      show (if b' = b + n then _ else _) = _
      by_cases h2 : b' = b + n
      · rw [if_pos h2, if_pos ⟨by omega, by omega⟩]
      · rw [if_neg h2, if_neg (fun h => h1 ⟨h.1, by omega⟩)]
  | vec b' s o m =>
    simp only [fF]
    by_cases h1 : b ≤ b' ∧ b' < b + n
    · have h3 : b ≤ b' ∧ b' < b + (n + 1) := ⟨h1.1, by omega⟩
      rw [if_pos h1, if_pos h3]
      split <;> rfl
    · rw [if_neg h1]
      show (if b' = b + n then _ else _) = _
      by_cases h2 : b' = b + n
      · subst h2
        have h3 : b ≤ b + n ∧ b + n < b + (n + 1) := ⟨by omega, by omega⟩
        rw [if_pos rfl, if_pos h3, show b + n - b = n by omega]
      · rw [if_neg h2, if_neg (fun h => h1 ⟨h.1, by omega⟩)]
  | fn f caps =>
    simp only [fF]
    by_cases h1 : caps.any (fun p => decide (b ≤ p.1 ∧ p.1 < b + n)) = true
    · rw [if_pos h1, if_pos ?_]
      · rfl
      · obtain ⟨p, hp, hq⟩ := List.any_eq_true.1 h1
        have hq := of_decide_eq_true hq
        exact List.any_eq_true.2 ⟨p, hp, decide_eq_true ⟨hq.1, by omega⟩⟩
    · rw [if_neg h1]
      show (if caps.any (fun p => p.1 == b + n) = true then _ else _) = _
      by_cases h2 : caps.any (fun p => p.1 == b + n) = true
      · rw [if_pos h2, if_pos ?_]
        obtain ⟨p, hp, hq⟩ := List.any_eq_true.1 h2
        have hq := eq_of_beq hq
        exact List.any_eq_true.2 ⟨p, hp, decide_eq_true ⟨by omega, by omega⟩⟩
      · rw [if_neg h2, if_neg ?_]
        intro h3
        obtain ⟨p, hp, hq⟩ := List.any_eq_true.1 h3
        have hq := of_decide_eq_true hq
        by_cases e : p.1 = b + n
        · exact h2 (List.any_eq_true.2 ⟨p, hp, by rw [e]; exact beq_self_eq_true _⟩)
        · exact h1 (List.any_eq_true.2 ⟨p, hp, decide_eq_true ⟨hq.1, by omega⟩⟩)
theorem fFA_succ (a : AV) : fA (b + n) sz len (x n) (fFA b n sz len x a) = fFA b (n + 1) sz len x a := by
  cases a with
  | one c => show AV.one _ = AV.one _; rw [fF_succ]
  | agg cs =>
    show AV.agg ((cs.map _).map _) = AV.agg _
    rw [List.map_map]
    congr 1
    exact List.map_congr_left fun c _ => fF_succ c
  | iptr cs => rfl
  | tup xs => cases xs <;> rfl
  | junk => rfl
theorem fF_zero (c : C) : fF b 0 sz len x c = c := by
  cases c with
  | t y => rfl
  | ptr b' o => simp only [fF]; rw [if_neg (by omega)]
  | vec b' s o m => simp only [fF]; rw [if_neg (by omega)]
  | fn f caps =>
    simp only [fF]
    rw [if_neg]
    intro h
    obtain ⟨p, hp, hq⟩ := List.any_eq_true.1 h
    have hq := of_decide_eq_true hq
    omega
theorem treeOf_map {cs : List C} {y : T} {f : C → C} (h : TreeOf cs sz len y) (hf : ∀ t, f (.t t) = .t t) : cs.map f = cs := by
  cases h with
  | seq h1 h2 h3 h4 =>
    subst h2
    rw [List.map_map]
    exact List.map_congr_left fun t _ => hf t
end
/-- A slot that holds many parts, of which none is kept. -/
theorem St.frzF_zero' {σ σ' : St} {b sz len : Nat} {x : Nat → T} (h1 : σ'.n = σ.n) (hs : ∀ t, σ'.s t = fFA b 0 sz len x (σ.s t)) (hH : ∀ m, σ'.H m = σ.H m) (ρ : Nat → Option Nat) (ok : Nat → Prop) (a : Act) (w : World) (h : SR ρ ok σ a w) : SR ρ ok σ' a w := by
  refine ⟨⟨fun b cs hb => ?_, fun b hb => ?_, h.inj, h.okR⟩, by rw [h1]; exact h.size, fun t => ?_, h.defers, by rw [h1]; exact h.small⟩
  · rw [hH] at hb; exact h.heap b cs hb
  · rw [hH] at hb; exact h.dom b hb
  · rw [hs]
    have h2 := h.slots t
    generalize σ.s t = v at h2
    cases v with
    | one c => show RA _ _ _ (.one (fF b 0 sz len x c)) _; rw [fF_zero]; exact h2
    | agg cs =>
      show RA _ _ _ (.agg (cs.map (fF b 0 sz len x))) _
      rw [show cs.map (fF b 0 sz len x) = cs from (List.map_congr_left fun c _ => fF_zero c).trans (List.map_id' cs)]; exact h2
    | iptr cs => exact h2
    | tup xs =>
      cases xs with
      | nil => exact h2
      | cons _ _ => exact .junk
    | junk => exact h2
theorem gstep_frzF {σ : St} {b sz len : Nat} {x : Nat → T} : ∀ (n : Nat), (∀ i, i < n → ∃ cs, σ.H (b + i) = some cs ∧ TreeOf cs sz len (x i)) → GStep σ (σ.frzF b n sz len x)
  | 0, _ => fun ρ ok a w h => by
    refine ⟨ρ, ok, St.frzF_zero' (σ := σ) (σ' := σ.frzF b 0 sz len x) (b := b) (sz := sz) (len := len) (x := x) rfl (fun t => rfl) (fun m => ?_) ρ ok a w h, Goes.refl ρ ok w⟩
    show (if b ≤ m ∧ m < b + 0 then _ else _) = _
    rw [if_neg (by omega)]
    cases σ.H m with
    | none => rfl
    | some cs => show some (cs.map _) = some cs; rw [show cs.map (fF b 0 sz len x) = cs from (List.map_congr_left fun c _ => fF_zero c).trans (List.map_id' cs)]
  | n + 1, h => by
    refine GStep.trans (gstep_frzF n fun i hi => h i (by omega)) ?_
    obtain ⟨cs, h1, h2⟩ := h n (by omega)
    have h3 : (σ.frzF b n sz len x).H (b + n) = some cs := by
      rw [frzF_H, if_neg (by omega), h1]
      show some (cs.map _) = _
      rw [treeOf_map h2 fun _ => rfl]
    have e : (σ.frzF b n sz len x).frz (b + n) sz len (x n) = σ.frzF b (n + 1) sz len x := by
      unfold St.frz St.frzF
      congr 1
      · funext t; exact fFA_succ _
      · funext m
        show (if m = b + n then none else (if b ≤ m ∧ m < b + n then none else (σ.H m).map _).map _) = _
        by_cases e1 : m = b + n
        · rw [if_pos e1, if_pos ⟨by omega, by omega⟩]
        · rw [if_neg e1]
          by_cases e2 : b ≤ m ∧ m < b + n
          · rw [if_pos e2, if_pos ⟨e2.1, by omega⟩]; rfl
          · rw [if_neg e2, if_neg (fun h => e2 ⟨h.1, by omega⟩)]
            cases σ.H m with
            | none => rfl
            | some cs =>
              show some ((cs.map _).map _) = some (cs.map _)
              rw [List.map_map]
              congr 1
              exact List.map_congr_left fun c _ => fF_succ c
    rw [← e]
    exact gstep_frz h3 h2
end Go.Abs
namespace Go.Abs
open Go
/-- What a function answers in the end, where the walk's own blocks may be looked at anew. -/
def nretG (P : Program) (rs : List ResultVar) (X : Heap) (r : AV) (e : Exit) (σ : St) : Prop := ∃ σ', GStep σ σ' ∧ nretQ P rs X r e σ'
variable {P : Program}
theorem ncall_of_wpG (hm : P.follows .mixedOrders = true) {f : FuncId} {fn : Func} {c : Code} {k : Nat} {rs : List ResultVar} {args : List TV} {X : Heap} {r : AV} (hent : ∀ (as : Array Value) w, (callFunc f as).run P w = .ok (.enter f as) w) (hf : P.funcs[f]? = some fn)
    (hb : fn.body = some c) (hn : fn.ntmps = k) (hrs : fn.results = rs.toArray) (hl : args.length ≤ k) (hsm : k ≤ PIN) (hcl : ∀ b cs, X b = some cs → ∀ c ∈ cs, inC X c) (hr : inA X r)
    (h : wpA P c (nretG P rs X r) (initSt k (args.map emb) noH)) : NCall P f args X r := by
  subst hn
  have e : fn.results.toList = rs := by rw [hrs]
  subst e
  intro H H' φ hfree hinj hH1 hH2
  refine ⟨hent, fun ρ ok w vs hH hv => ?_⟩
  have hv0 : RArgs w ok noρ (args.map emb) vs := by
    refine ⟨hv.1, fun i hi hi' => ?_⟩
    have := hv.2 i hi hi'
    simp only [List.getElem_map] at this ⊢
    exact RA_tree this _ rfl
  refine calls_of_wp hf hb (Code.wp_mono ?_ (code_sound hm c _ _ noρ ok _ w (init_SR ⟨fun b cs hb => (by cases hb), fun _ _ => rfl, fun _ _ _ h => (by cases h), fun n hn => ⟨(hH.okR n hn).1, fun _ h => (by cases h)⟩⟩ hv0 (by rw [hv0.1]; simpa using hl) hsm) h))
  rintro e' a w' ⟨σ0, ρ0, ok0, ⟨σ, hst, he, hres, hret, hX⟩, s0, g0⟩
  obtain ⟨ρ1, ok1, s, g1⟩ := hst ρ0 ok0 a w' s0
  have g := g0.trans g1
  obtain ⟨v, r1, r2⟩ := results_sound s hres
  rw [hret] at r2
  have hnew : ∀ b c, ρ1 b = some c → w.heap.size ≤ c := fun b c hb => by
    rcases g.img b c hb with ⟨b', h1⟩ | h1
    · cases h1
    · exact h1
  have hsame : ∀ n, n < w.heap.size → w'.heap[n]? = w.heap[n]? := fun n hn => g.same n hn (fun b e => by cases e)
  have himgρ : ∀ x n, ρ x = some n → n < w.heap.size := fun x n hx => himg (σ := ⟨0, fun _ => .junk, H⟩) hH hx
  have hk : Keeps ok w w' := fun n hn => hsame n (hH.okR n hn).1
  have hat : ∀ b c, X b ≠ none → ρ1 b = some c → whoN X φ ρ1 ρ (φ b) = some c := fun b c hb hc => by rw [whoN_at hinj hb]; exact hc
  have hext : ∀ x y, ρ x = some y → whoN X φ ρ1 ρ x = some y := fun x y hx => by
    rw [whoN_no (fun b hb e => ?_)]
    · exact hx
    · have := hH.dom _ (hfree b hb).1
      rw [e, hx] at this; cases this
  have main : ∃ v' ρ'' ok'', Ending.returned v = .returned v' ∧ RA w' ok'' ρ'' (rnA φ r) v' ∧ HR ρ'' ok'' H' w' ∧ Goes ρ ok w ρ'' ok'' w' ∧ ∀ b c, ρ b = some c → ρ'' b = some c := by
    refine ⟨v, whoN X φ ρ1 ρ, ok1, rfl, r2.rnX hat hr, ⟨fun x cs hx => ?_, fun x hx => ?_, fun x y n hx hy => ?_, fun n hn => ⟨(s.okR n hn).1, fun x hx => ?_⟩⟩, ⟨g.size, fun n hn _ => hsame n hn, g.shape, fun x n hx => ?_, g.up, fun n hn => ?_, fun x hx => ?_, g.env⟩, hext⟩
    · by_cases hx2 : ∃ b, X b ≠ none ∧ φ b = x
      · obtain ⟨b, hb, rfl⟩ := hx2
        obtain ⟨cs0, hcs0⟩ := Option.ne_none_iff_exists'.1 hb
        rw [hH1 b cs0 hcs0] at hx
        cases hx
        obtain ⟨c, arr, el, h1, h2, h3, h4⟩ := s.heap b cs0 (hX b cs0 hcs0)
        refine ⟨c, arr, el, hat b c hb h1, h2, by simpa using h3, fun j hj hj' => ?_⟩
        simp only [List.length_map] at hj
        simp only [List.getElem_map]
        exact (h4 j hj hj').rnX hat (hcl b cs0 hcs0 _ (List.getElem_mem hj))
      · rw [hH2 x fun b h1 h2 => hx2 ⟨b, h1, h2⟩] at hx
        obtain ⟨cx, ax, ex, q1, q2, q3, q4⟩ := hH.heap x cs hx
        exact ⟨cx, ax, ex, hext _ _ q1, by rw [hsame cx (himgρ _ _ q1)]; exact q2, q3, fun j hj hj' => (q4 j hj hj').mono hk g.up g.shape hext⟩
    · rcases hw : whoN X φ ρ1 ρ x with _ | n
      · rfl
      · rcases whoN_cases hinj hw with ⟨b, hb, rfl, _⟩ | ⟨h1, h2⟩
        · obtain ⟨cs0, hcs0⟩ := Option.ne_none_iff_exists'.1 hb
          rw [hH1 b cs0 hcs0] at hx; cases hx
        · rw [hH2 x h1] at hx
          rw [hH.dom x hx] at h2; cases h2
    · rcases whoN_cases hinj hx with ⟨b, hb, rfl, h1⟩ | ⟨_, h1⟩
      · rcases whoN_cases hinj hy with ⟨b', hb', rfl, h2⟩ | ⟨_, h2⟩
        · rw [s.inj b b' n h1 h2]
        · have := hnew _ _ h1; have := himgρ _ _ h2; omega
      · rcases whoN_cases hinj hy with ⟨b', hb', rfl, h2⟩ | ⟨_, h2⟩
        · have := hnew _ _ h2; have := himgρ _ _ h1; omega
        · exact hH.inj x y n h1 h2
    · rcases whoN_cases hinj hx with ⟨b, hb, rfl, h1⟩ | ⟨_, h1⟩
      · exact (s.okR n hn).2 b h1
      · rcases g.down n hn with k | ⟨b', k⟩ | k
        · exact (hH.okR n k).2 x h1
        · cases k
        · have := himgρ _ _ h1; omega
    · rcases whoN_cases hinj hx with ⟨b, hb, rfl, h1⟩ | ⟨_, h1⟩
      · exact .inr (hnew _ _ h1)
      · exact .inl ⟨x, h1⟩
    · rcases g.down n hn with k | ⟨b', k⟩ | k
      · exact .inl k
      · cases k
      · exact .inr (.inr k)
    · left
      exact whoN_no fun b hb e => by have := (hfree b hb).2; omega
  have hfin2 : a.defers = [] ∧ ∃ v, (results fn a.tmps).run P w' = .ok v w' ∧ ∃ v' ρ'' ok'', Ending.returned v = .returned v' ∧ RA w' ok'' ρ'' (rnA φ r) v' ∧ HR ρ'' ok'' H' w' ∧ Goes ρ ok w ρ'' ok'' w' ∧ ∀ b c, ρ b = some c → ρ'' b = some c :=
    ⟨s.defers, v, r1, main⟩
  rcases he with rfl | rfl <;> exact hfin2
@[go_sem] theorem thA_litB {θ : Nat → Nat} {b : Bool} : thA θ (litB b) = litB b := rfl
@[go_sem] theorem thA_litI {θ : Nat → Nat} {k : IntKind} {n : Int} : thA θ (litI k n) = litI k n := rfl
@[go_sem] theorem thA_nil {θ : Nat → Nat} : thA θ (.tup []) = .tup [] := rfl
end Go.Abs
namespace Go.Abs
open Go
/-- What a function leaves that changes blocks of its caller's, where the walk's own blocks may be looked at anew in the end. -/
def xretG (P : Program) (rs : List ResultVar) (r : AV) (X' : Heap) (e : Exit) (σ : St) : Prop := ∃ σ', GStep σ σ' ∧ xretQ P rs r X' e σ'
theorem mcall_of_wpXG {P : Program} (hm : P.follows .mixedOrders = true) {f : FuncId} {fn : Func} {c : Code} {n : Nat} {rs : List ResultVar} {args : List AV} {r : AV} {X X' : Heap} (hent : ∀ (as : Array Value) w, (callFunc f as).run P w = .ok (.enter f as) w) (hf : P.funcs[f]? = some fn)
    (hb : fn.body = some c) (hn : fn.ntmps = n) (hrs : fn.results = rs.toArray) (hl : args.length ≤ n) (hsm : n ≤ PIN)
    (hlow : ∀ b, b < PIN → X' b = none) (hdom : ∀ b, X' b = none ↔ X b = none) (hcl : ∀ b cs, X' b = some cs → ∀ c ∈ cs, inC X' c) (hr : inA X' r)
    (h : wpA P c (xretG P rs r X') (initSt n args X)) : MCall P f args X r X' := by
  subst hn
  have e : fn.results.toList = rs := by rw [hrs]
  subst e
  refine ⟨hent, fun ρ ok w vs hHR hv => calls_of_wp hf hb (Code.wp_mono ?_ (code_sound hm c _ _ ρ ok _ w (init_SR hHR hv (by rw [hv.1]; exact hl) hsm) h))⟩
  rintro e a w' ⟨σ0, ρ0, ok0, ⟨σ, hst, he, hres, hret, hX⟩, s0, g0⟩
  obtain ⟨ρ', ok', s, g1⟩ := hst ρ0 ok0 a w' s0
  have g := g0.trans g1
  obtain ⟨v, r1, r2⟩ := results_sound s hres
  rw [hret] at r2
  let ρ2 : Nat → Option Nat := fun b => if PIN ≤ b then ρ' b else none
  have hρ2 : ∀ b c, ρ2 b = some c → PIN ≤ b ∧ ρ' b = some c := fun b c hc => by
    simp only [ρ2] at hc
    split at hc
    · exact ⟨‹_›, hc⟩
    · cases hc
  have hpin : ∀ b, X' b ≠ none → PIN ≤ b := fun b hb => by
    rcases Nat.lt_or_ge b PIN with h | h
    · exact absurd (hlow b h) hb
    · exact h
  have hkeep : ∀ b c, X' b ≠ none → ρ' (thI (fun k => PIN + k) b) = some c → ρ2 b = some c := fun b c hb hc => by
    have hp := hpin b hb
    have : thI (fun k => PIN + k) b = b := by show PIN + (b - PIN) = b; omega
    rw [this] at hc
    simp only [ρ2, hp, if_true]; exact hc
  have hidC : ∀ c : C, inC X' c → thC (fun k => PIN + k) c = c := fun c hc => by
    have hid : ∀ b, X' b ≠ none → thI (fun k => PIN + k) b = b := fun b hb => by have := hpin b hb; show PIN + (b - PIN) = b; omega
    cases c with
    | t x => rfl
    | ptr b o => show C.ptr _ o = _; rw [hid b hc]
    | vec b s o n => show C.vec _ s o n = _; rw [hid b hc]
    | fn f caps =>
      show C.fn f _ = _
      congr 1
      rw [List.map_congr_left (g := id) fun p hp => by rw [hid p.1 (hc p hp)]; rfl, List.map_id]
  have hidA : thA (fun k => PIN + k) r = r := thA_id hidC r hr
  have hext : ∀ b c, ρ b = some c → ρ2 b = some c := fun b c hc => by
    have hbX : X b ≠ none := fun e => by rw [hHR.dom b e] at hc; cases hc
    have hb' : X' b ≠ none := fun e => hbX ((hdom b).1 e)
    have hp := hpin b hb'
    obtain ⟨cs, hcs⟩ := Option.ne_none_iff_exists'.1 hb'
    obtain ⟨c', _, _, h1, _⟩ := s.heap b cs (by rw [hX b hp]; exact hcs)
    rcases g.pin b hp with h2 | h2
    · simp only [ρ2, hp, if_true]; rw [h2]; exact hc
    · rw [h2] at h1; cases h1
  have hok2 : ∀ n, okAll ok' (fun b => if PIN ≤ b then none else ρ' b) n → n < w'.heap.size ∧ ∀ b, ρ2 b ≠ some n := fun n hn => by
    rcases hn with hn | ⟨b, hb⟩
    · exact ⟨(s.okR n hn).1, fun b hb => (s.okR n hn).2 b (hρ2 b n hb).2⟩
    · have hb2 : ¬ PIN ≤ b ∧ ρ' b = some n := by
        by_cases hp : PIN ≤ b
        · simp only [hp, if_true] at hb; cases hb
        · simp only [hp, if_false] at hb; exact ⟨hp, hb⟩
      exact ⟨himg s.toHR hb2.2, fun b' hb' => by
        obtain ⟨k1, k2⟩ := hρ2 b' n hb'
        have := s.inj _ _ n hb2.2 k2
        omega⟩
  have hup : ∀ n, ok' n → okAll ok' (fun b => if PIN ≤ b then none else ρ' b) n := fun n hn => .inl hn
  have hfin : a.defers = [] ∧ ∃ v, (results fn a.tmps).run P w' = .ok v w' ∧ ∃ v' ρ'' ok'', Ending.returned v = .returned v' ∧ RA w' ok'' ρ'' r v' ∧ HR ρ'' ok'' X' w' ∧ Goes ρ ok w ρ'' ok'' w' ∧ ∀ b c, ρ b = some c → ρ'' b = some c := by
    refine ⟨s.defers, v, r1, v, ρ2, okAll ok' (fun b => if PIN ≤ b then none else ρ' b), rfl, ?_, ⟨fun b cs hb => ?_, fun b hb => ?_, fun b b' c hb hb' => s.inj b b' c (hρ2 b c hb).2 (hρ2 b' c hb').2, hok2⟩, ⟨g.size, g.same, g.shape, fun b n hb => g.img b n (hρ2 b n hb).2, fun n hn => .inl (g.up n hn), fun n hn => ?_, fun b hp => ?_, g.env⟩, hext⟩
    · have h1 : RA w' ok' ρ' (thA (fun k => PIN + k) r) v := by rw [hidA]; exact r2
      exact (h1.unren (X := X') hkeep hr).mono (fun _ _ => rfl) hup (fun _ _ _ h => h) fun _ _ h => h
    · have hp := hpin b (by rw [hb]; simp)
      obtain ⟨c, arr, el, h1, h2, h3, h4⟩ := s.heap b cs (by rw [hX b hp]; exact hb)
      refine ⟨c, arr, el, by simp only [ρ2, hp, if_true]; exact h1, h2, h3, fun j hj hj' => ?_⟩
      have hin := hcl b cs hb _ (List.getElem_mem hj)
      have h5 : RC w' ok' ρ' (thC (fun k => PIN + k) cs[j]) arr[j] := by rw [hidC _ hin]; exact h4 j hj hj'
      exact (h5.unren (X := X') hkeep hin).mono (fun _ _ => rfl) hup (fun _ _ _ h => h) fun _ _ h => h
    · by_cases hp : PIN ≤ b
      · have := s.dom b (by rw [hX b hp]; exact hb)
        simp only [ρ2, hp, if_true]; exact this
      · simp only [ρ2, hp, if_false]
    · rcases hn with hn | ⟨b, hb⟩
      · rcases g.down n hn with h1 | ⟨b', h1⟩ | h1
        · exact .inl h1
        · exact .inr (.inl ⟨b', h1⟩)
        · exact .inr (.inr h1)
      · have hb2 : ¬ PIN ≤ b ∧ ρ' b = some n := by
          by_cases hp : PIN ≤ b
          · simp only [hp, if_true] at hb; cases hb
          · simp only [hp, if_false] at hb; exact ⟨hp, hb⟩
        rcases g.img b n hb2.2 with ⟨b', h1⟩ | h1
        · exact .inr (.inl ⟨b', h1⟩)
        · exact .inr (.inr h1)
    · have h1 := g.pin b hp
      simp only [ρ2, hp, if_true]; exact h1
  rcases he with rfl | rfl <;> exact hfin

end Go.Abs
namespace Go.Abs
open Go
theorem pureAt_indexAddr {P : Program} {o : Oper} {σ : St} {t : TypeId} {x y : Operand} (ho : o.op = .indexAddr t x y) (h1 : tok P t = true) (h2 : isSliceD (tdesc P t) = true) (h3 : tok P (telem P t) = true)
    (h4 : elemOk (tsize P (telem P t)) (ev σ.s x) (idx (ev σ.s y))) {n : Nat} (hn : (ev σ.s x).lenOf = some n) (h5 : inRange (ev σ.s y) n) :
    PureAt P o σ (elemA (tsize P (telem P t)) (ev σ.s x) (idx (ev σ.s y))) := by
  intro ρ ok a w h
  obtain ⟨k, hy, hlt⟩ := inRange_spec (RA_ev h y) h5
  have hax := RA_ev h x
  generalize hi : idx (ev σ.s y) = i at *
  suffices hs : ∃ c off cap, a.eval x = .slice (some ⟨c, off, none⟩) n cap ∧ RA w ok ρ (elemA (tsize P (telem P t)) (ev σ.s x) i) (.pointer (some ⟨c, off + i * tsize P (telem P t), none⟩)) by
    obtain ⟨c, off, cap, e1, e2⟩ := hs
    refine ⟨_, fun w' => ?_, e2⟩
    simp only [execOp, ho, e1, hy]
    refine v_run ?_
    unfold Instr.indexAt
    simp only [asIntOf, Sem.run_bind, Sem.run_pure, Result.andThen, run_underlying h1, slice_of h2]
    rw [if_pos (by omega)]
    rw [Sem.run_bind, run_sizeOf h3]
    simp [Result.andThen, add_none]
  generalize a.eval x = vx at *
  generalize ev σ.s x = ax at *
  unfold AV.lenOf at hn
  split at hn
  · rename_i nl xs
    cases hn
    obtain ⟨A, c, sz, blk, off, u, rfl, g2, g0, g3, g4, g5, g6, g7, g8⟩ := hax.seq_inv2
    have hxs : xs ≠ [] := by intro e; subst e; simp at hlt
    obtain ⟨k1, k2⟩ := g6 hxs
    have hszz : sz = tsize P (telem P t) := by
      cases xs with
      | nil => exact absurd rfl hxs
      | cons y ys => rw [← g5 y (by simp), ← h4 y (by simp)]
    subst hszz
    subst k1
    refine ⟨blk, off, c, rfl, ?_⟩
    have e : xs.getD i [] = xs[i] := by simp [hlt]
    simp only [elemA, e]
    refine .iptr (u := u i) k2 (fun j hj => ?_) (fun j hj => g8 i hlt j hj)
    rw [Nat.add_assoc]; exact g7 i hlt j hj
  · rename_i b s off m
    cases hn
    obtain ⟨c, cap, n0, k1, rfl, k2, k3, k4⟩ := hax.vec_inv
    have hs : s = tsize P (telem P t) := h4
    subst hs
    exact ⟨c, off, cap, rfl, .one (.ptr k1)⟩
  · exact h4.elim
  · cases hn

end Go.Abs
