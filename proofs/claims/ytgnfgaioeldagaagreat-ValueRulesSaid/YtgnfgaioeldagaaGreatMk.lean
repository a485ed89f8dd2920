/- At every input the call answers true and leaves its arguments as they were; no conditions. -/
import Derived.Test.YtgnfgaioeldagaaGreatMj
set_option linter.unusedSimpArgs false
set_option linter.unusedVariables false
namespace Go.Abs
open Go
/-! ### Own blocks of trees that nobody writes any more: pointers to them, closures over them become trees -/
/-- What lies where closures' catches point to. -/
def zcaps (X : Nat → Option (List T)) : List (Nat × Nat) → Option (List (List T))
  | [] => some []
  | p :: l => match X p.1, zcaps X l with | some ts, some m => some (ts.drop p.2 :: m) | _, _ => none
def zC (X : Nat → Option (List T)) : C → C
  | .t x => .t x
  | .ptr b o => if (X b).isSome then .t .junk else .ptr b o
  | .vec b s o n => if (X b).isSome then .t .junk else .vec b s o n
  | .fn f caps => match zcaps X caps with
    | some m => .t (.clo f m)
    | none => if caps.any (fun p => (X p.1).isSome) then .t .junk else .fn f caps
def zA (X : Nat → Option (List T)) : AV → AV
  | .one (.ptr b o) => match X b with | some ts => .iptr (ts.drop o) | none => .one (.ptr b o)
  | .one c => .one (zC X c)
  | .agg cs => .agg (cs.map (zC X))
  | .iptr cs => .iptr cs
  | .tup [] => .tup []
  | _ => .junk
def St.frzX (σ : St) (X : Nat → Option (List T)) : St := ⟨σ.n, fun t => zA X (σ.s t), fun n => if (X n).isSome then none else (σ.H n).map (·.map (zC X))⟩
def lookX : List (Nat × List T) → Nat → Option (List T)
  | [], _ => none
  | (k, v) :: l, t => if t = k then some v else lookX l t
theorem zcaps_spec {X : Nat → Option (List T)} : ∀ {caps : List (Nat × Nat)} {m : List (List T)}, zcaps X caps = some m → m.length = caps.length ∧ ∀ i (h : i < caps.length) (h' : i < m.length), ∃ ts, X caps[i].1 = some ts ∧ m[i] = ts.drop caps[i].2
  | [], m, h => by simp only [zcaps, Option.some.injEq] at h; subst h; exact ⟨rfl, fun i hi => by simp at hi⟩
  | p :: l, m, h => by
    unfold zcaps at h
    split at h
    · rename_i ts m' h1 h2
      cases h
      obtain ⟨i1, i2⟩ := zcaps_spec h2
      refine ⟨by simp [i1], fun i hi hi' => ?_⟩
      cases i with
      | zero => exact ⟨ts, h1, rfl⟩
      | succ i => simpa using i2 i (by simpa using hi) (by simpa using hi')
    · cases h
section
variable {X : Nat → Option (List T)} {ρ : Nat → Option Nat} {ok : Nat → Prop} {w : World} {σ : St} {a : Act}
theorem zX_core {H : Heap} (h : HR ρ ok H w) (hX : ∀ b ts, X b = some ts → H b = some (ts.map .t)) :
    (∀ {y : C} {v : Value}, RC w ok ρ y v → RC w (fun n => ok n ∨ ∃ b, (X b).isSome = true ∧ ρ b = some n) (fun b => if (X b).isSome then none else ρ b) (zC X y) v) ∧
    (∀ {y : AV} {v : Value}, RA w ok ρ y v → RA w (fun n => ok n ∨ ∃ b, (X b).isSome = true ∧ ρ b = some n) (fun b => if (X b).isSome then none else ρ b) (zA X y) v) := by
  have hup : ∀ n, ok n → (ok n ∨ ∃ b, (X b).isSome = true ∧ ρ b = some n) := fun _ h => .inl h
  have hk : Keeps ok w w := fun _ _ => rfl
  have hcell : ∀ {b : Nat} {ts : List T} {c : Nat}, X b = some ts → ρ b = some c → ∃ u : Nat → Value, ∀ j (hj : j < ts.length), w.cell? ⟨c, j, none⟩ = some (u j) ∧ RT w ok ts[j] (u j) := fun {b ts c} hb hc => by
    obtain ⟨c', arr, el, h1, h2, h3, h4⟩ := h.heap b _ (hX b ts hb)
    rw [hc] at h1; cases h1
    refine ⟨fun j => (arr[j]?).getD undef, fun j hj => ?_⟩
    have hl : j < arr.size := by simp only [List.length_map] at h3; omega
    refine ⟨by simp [World.cell?, h2, hl], ?_⟩
    have := h4 j (by simpa using hj) hl
    simp only [List.getElem_map] at this
    cases this with
    | t this => simpa [hl] using this
  have key : ∀ {y : C} {v : Value}, RC w ok ρ y v → RC w (fun n => ok n ∨ ∃ b, (X b).isSome = true ∧ ρ b = some n) (fun b => if (X b).isSome then none else ρ b) (zC X y) v := by
    intro y v hy
    have hone := hy.oneCell
    cases hy with
    | t hy => exact .t (hy.mono hk hup)
    | ptr hy =>
      simp only [zC]
      split
      · exact .t (.junk hone)
      · rename_i hne; exact .ptr (by rw [if_neg hne]; exact hy)
    | vec hy g1 g2 g3 =>
      simp only [zC]
      split
      · exact .t (.junk hone)
      · rename_i hne; exact .vec (by rw [if_neg hne]; exact hy) g1 g2 g3
    | @fn f caps vs g0 g1 =>
      simp only [zC]
      split
      · rename_i m hm
        obtain ⟨m1, m2⟩ := zcaps_spec hm
        refine .t (.clo (blk := fun i => (ρ (caps.getD i default).1).getD 0) (off := fun i => (caps.getD i default).2)
          (u := fun i j => (w.cell? ⟨(ρ (caps.getD i default).1).getD 0, (caps.getD i default).2 + j, none⟩).getD undef) (by omega) (fun i hi hi' => ?_) (fun i hi j hj => ?_) (fun i hi j hj => ?_))
        · have hi2 : i < caps.length := by omega
          obtain ⟨c, e1, e2⟩ := g1 i hi2 hi'
          obtain ⟨ts, e3, e4⟩ := m2 i hi2 hi
          have e5 : caps.getD i default = caps[i] := by simp [hi2]
          rw [e5, e1]
          exact ⟨e2, .inr ⟨caps[i].1, by rw [e3]; rfl, e1⟩⟩
        · have hi2 : i < caps.length := by omega
          obtain ⟨c, e1, e2⟩ := g1 i hi2 (by omega)
          obtain ⟨ts, e3, e4⟩ := m2 i hi2 hi
          have e5 : caps.getD i default = caps[i] := by simp [hi2]
          simp only [e5, e1, Option.getD_some]
          obtain ⟨u, hu⟩ := hcell e3 e1
          rw [e4, List.length_drop] at hj
          rw [(hu (caps[i].2 + j) (by omega)).1]
          rfl
        · have hi2 : i < caps.length := by omega
          obtain ⟨c, e1, e2⟩ := g1 i hi2 (by omega)
          obtain ⟨ts, e3, e4⟩ := m2 i hi2 hi
          have e5 : caps.getD i default = caps[i] := by simp [hi2]
          simp only [e5, e1, Option.getD_some]
          obtain ⟨u, hu⟩ := hcell e3 e1
          have hj2 := hj
          rw [e4, List.length_drop] at hj2
          obtain ⟨f1, f2⟩ := hu (caps[i].2 + j) (by omega)
          rw [f1]
          have e6 : m[i][j] = ts[caps[i].2 + j]'(by omega) := by simp only [e4, List.getElem_drop]
          rw [e6]
          exact f2.mono hk hup
      · split
        · exact .t (.junk hone)
        · rename_i hn
          refine .fn g0 fun i hi hi' => ?_
          obtain ⟨c', k2, k3⟩ := g1 i hi hi'
          refine ⟨c', ?_, k3⟩
          have : ¬ (X caps[i].1).isSome = true := fun e => hn (List.any_eq_true.2 ⟨_, List.getElem_mem hi, e⟩)
          rw [if_neg this]; exact k2
  refine ⟨key, ?_⟩
  intro y v hy
  cases hy with
  | @one c v hy =>
    cases c with
    | ptr b o =>
      cases hb : X b with
      | some ts =>
        have e : zA X (.one (.ptr b o)) = .iptr (ts.drop o) := by
          show (match X b with | some ts => AV.iptr (ts.drop o) | none => .one (.ptr b o)) = _
          rw [hb]
        rw [e]
        cases hy with
        | ptr hy =>
          rename_i c
          obtain ⟨u, hu⟩ := hcell hb hy
          refine .iptr (u := fun j => u (o + j)) (.inr ⟨b, by rw [hb]; rfl, hy⟩) (fun j hj => ?_) (fun j hj => ?_)
          · rw [List.length_drop] at hj; exact (hu (o + j) (by omega)).1
          · have hj2 := hj
            rw [List.length_drop] at hj2
            rw [List.getElem_drop]
            exact (hu (o + j) (by omega)).2.mono hk hup
      | none =>
        have e : zA X (.one (.ptr b o)) = .one (.ptr b o) := by
          show (match X b with | some ts => AV.iptr (ts.drop o) | none => .one (.ptr b o)) = _
          rw [hb]
        rw [e]
        cases hy with
        | ptr hy => exact .one (.ptr (by rw [hb]; exact hy))
    | t x => exact .one (key hy)
    | vec => exact .one (key hy)
    | fn => exact .one (key hy)
  | agg g1 g2 => exact .agg (by simpa using g1) fun j hj hj' => by simp only [List.getElem_map]; exact key (g2 j (by simpa using hj) hj')
  | iptr g1 g2 g3 => exact .iptr (.inl g1) g2 fun j hj => (g3 j hj).mono hk hup
  | @tup xs vs g1 g2 =>
    cases xs with
    | nil => exact .tup g1 fun j hj => by simp at hj
    | cons _ _ => exact .junk
  | junk => exact .junk

theorem frzX_sound (h : SR ρ ok σ a w) (hX : ∀ b ts, X b = some ts → σ.H b = some (ts.map .t)) : ∃ ρ' ok', SR ρ' ok' (σ.frzX X) a w ∧ Goes ρ ok w ρ' ok' w ∧
    ∀ {y : AV} {v : Value}, RA w ok ρ y v → RA w ok' ρ' (zA X y) v := by
  obtain ⟨hC, hA⟩ := zX_core h.toHR hX
  refine ⟨_, _, ⟨⟨fun b' cs' hb' => ?_, fun b' hb' => ?_, fun b1 b2 m h1 h2 => ?_, fun m hm => ?_⟩, h.size, fun t => hA (h.slots t), h.defers, h.small⟩, ⟨Nat.le_refl _, fun _ _ _ => rfl, fun _ _ _ h => h, fun b' m hb' => ?_, fun _ h => .inl h, fun m hm => ?_, fun b' _ => by show (if _ then _ else _) = _ ∨ (if _ then _ else _) = _; split <;> simp, ⟨rfl, rfl⟩⟩, hA⟩
  · have hb' : (if (X b').isSome then none else (σ.H b').map (·.map (zC X))) = some cs' := hb'
    split at hb'
    · cases hb'
    · rename_i hne
      simp only [Option.map_eq_some_iff] at hb'
      obtain ⟨cs0, hb0, rfl⟩ := hb'
      obtain ⟨c2, arr, el, f1, f2, f3, f4⟩ := h.heap b' cs0 hb0
      exact ⟨c2, arr, el, by rw [if_neg hne]; exact f1, f2, by simpa using f3, fun j hj hj' => by simp only [List.getElem_map]; exact hC (f4 j (by simpa using hj) hj')⟩
  · have hb' : (if (X b').isSome then none else (σ.H b').map (·.map (zC X))) = none := hb'
    split at hb'
    · rename_i e; show (if _ then _ else _) = _; rw [if_pos e]
    · rename_i hne; simp only [Option.map_eq_none_iff] at hb'; show (if _ then _ else _) = _; rw [if_neg hne]; exact h.dom b' hb'
  · by_cases e1 : (X b1).isSome = true
    · simp [e1] at h1
    · by_cases e2 : (X b2).isSome = true
      · simp [e2] at h2
      · simp only [e1, e2] at h1 h2; exact h.inj b1 b2 m h1 h2
  · rcases hm with hm | ⟨b, hb, hm⟩
    · refine ⟨(h.okR m hm).1, fun b' hb' => ?_⟩
      split at hb'
      · cases hb'
      · exact (h.okR m hm).2 b' hb'
    · refine ⟨himg h.toHR hm, fun b' hb' => ?_⟩
      split at hb'
      · cases hb'
      · rename_i hne; exact hne (h.inj b' b _ hb' hm ▸ hb)
  · split at hb'
    · cases hb'
    · exact .inl ⟨b', hb'⟩
  · rcases hm with hm | ⟨b, _, hm⟩
    · exact .inl hm
    · exact .inr (.inl ⟨b, hm⟩)
theorem AllX {H : Heap} : ∀ {l : List (Nat × List T)}, (∀ p ∈ l, H p.1 = some (p.2.map .t)) → ∀ b ts, lookX l b = some ts → H b = some (ts.map .t)
  | [], _, b, ts, h => by cases h
  | p :: l, hl, b, ts, h => by
    have h : (if b = p.1 then some p.2 else lookX l b) = some ts := h
    split at h
    · rename_i e; cases h; subst e; exact hl p (List.mem_cons_self ..)
    · exact AllX (fun q hq => hl q (List.mem_cons_of_mem _ hq)) b ts h
def HasX (H : Heap) : List (Nat × List T) → Prop
  | [] => True
  | (b, ts) :: l => H b = some (ts.map .t) ∧ HasX H l
theorem HasX.all {H : Heap} : ∀ {l : List (Nat × List T)}, HasX H l → ∀ p ∈ l, H p.1 = some (p.2.map .t)
  | [], _, p, hp => by cases hp
  | q :: l, h, p, hp => by
    rcases List.mem_cons.1 hp with rfl | hp
    · exact h.1
    · exact HasX.all h.2 p hp
theorem gstep_frzX (l : List (Nat × List T)) (hX : HasX σ.H l) : GStep σ (σ.frzX (lookX l)) := fun _ _ _ _ h => by
  obtain ⟨ρ', ok', h1, h2, _⟩ := frzX_sound h (AllX hX.all)
  exact ⟨ρ', ok', h1, h2⟩
/-- A pure call that is handed pointers to own blocks, closures over them, which nobody writes any more. -/
theorem call_clo {P : Program} {m : Nat} {f : FuncId} {as : List AV} {tvs : List TV} {r : TV} {K : AV → St → Prop} (l : List (Nat × List T)) (hm : m = 2) (hp : PCall P f tvs r) (hX : HasX σ.H l) (has : as.map (zA (lookX l)) = tvs.map emb)
    (hK : K (emb r) (σ.frzX (lookX l))) : CallA P m f as σ K := by
  refine .inr (.inr (.inl ⟨hm, emb r, σ.frzX (lookX l), rfl, ⟨hp.1, fun ρ ok a w vs h hv => ?_⟩, hK⟩))
  obtain ⟨ρ', ok', s1, g1, hA⟩ := frzX_sound h (AllX hX.all)
  have hv' : RArgs w ok' noρ (tvs.map emb) vs := by
    rw [← has]
    refine ⟨by rw [List.length_map]; exact hv.1, fun i hi hi' => ?_⟩
    have hi2 : i < as.length := by simpa using hi
    have e : (as.map (zA (lookX l)))[i] = emb (tvs[i]'(by have := congrArg List.length has; simp at this; omega)) := by
      simp only [has, List.getElem_map]
    have h1 : RA w ok' ρ' ((as.map (zA (lookX l)))[i]'(by simpa using hi2)) vs[i] := by simp only [List.getElem_map]; exact hA (hv.2 i hi2 hi')
    rw [e]
    exact RA_tree h1 _ e
  refine (hp.2 ok' w vs (fun n hn => (s1.okR n hn).1) hv').mono ?_
  rintro e w' ⟨v, ok'', rfl, hr, hg, hlt⟩
  obtain ⟨t1, t2⟩ := s1.pure hg hlt
  exact ⟨v, ρ', ok'', rfl, RA_tree hr _ rfl, t1, g1.trans t2⟩
@[go_sem] theorem frzX_n : (σ.frzX X).n = σ.n := rfl
@[go_sem] theorem frzX_s {t : Nat} : (σ.frzX X).s t = zA X (σ.s t) := rfl
@[go_sem] theorem frzX_H {n : Nat} : (σ.frzX X).H n = if (X n).isSome then none else (σ.H n).map (·.map (zC X)) := rfl
@[go_sem] theorem lookX_nil {t : Nat} : lookX [] t = none := rfl
@[go_sem] theorem lookX_cons {k t : Nat} {v : List T} {l : List (Nat × List T)} : lookX ((k, v) :: l) t = if t = k then some v else lookX l t := rfl
def zP (o : Nat) (b : Nat) : Option (List T) → AV
  | some ts => .iptr (ts.drop o)
  | none => .one (.ptr b o)
@[go_sem] theorem zP_some {o b : Nat} {ts : List T} : zP o b (some ts) = .iptr (ts.drop o) := rfl
@[go_sem] theorem zP_none {o b : Nat} : zP o b none = .one (.ptr b o) := rfl
@[go_sem] theorem zA_ptr {b o : Nat} : zA X (.one (.ptr b o)) = zP o b (X b) := by
  show (match X b with | some ts => AV.iptr (ts.drop o) | none => .one (.ptr b o)) = _
  cases X b <;> rfl
@[go_sem] theorem zA_t {x : T} : zA X (.one (.t x)) = .one (.t x) := rfl
@[go_sem] theorem zA_vec {b s o n : Nat} : zA X (.one (.vec b s o n)) = .one (zC X (.vec b s o n)) := rfl
def zF (X : Nat → Option (List T)) (f : FuncId) (caps : List (Nat × Nat)) : Option (List (List T)) → C
  | some m => .t (.clo f m)
  | none => if caps.any (fun p => (X p.1).isSome) then .t .junk else .fn f caps
@[go_sem] theorem zF_some {f : FuncId} {caps : List (Nat × Nat)} {m : List (List T)} : zF X f caps (some m) = .t (.clo f m) := rfl
@[go_sem] theorem zF_none {f : FuncId} {caps : List (Nat × Nat)} : zF X f caps none = if caps.any (fun p => (X p.1).isSome) then .t .junk else .fn f caps := rfl
@[go_sem] theorem zA_fn {f : FuncId} {caps : List (Nat × Nat)} : zA X (.one (.fn f caps)) = .one (zF X f caps (zcaps X caps)) := by
  show AV.one (match zcaps X caps with | some m => .t (.clo f m) | none => _) = _
  cases zcaps X caps <;> rfl
@[go_sem] theorem zC_fn {f : FuncId} {caps : List (Nat × Nat)} : zC X (.fn f caps) = zF X f caps (zcaps X caps) := by
  show (match zcaps X caps with | some m => C.t (.clo f m) | none => _) = _
  cases zcaps X caps <;> rfl
def zcons (o : Nat) : Option (List T) → Option (List (List T)) → Option (List (List T))
  | some ts, some m => some (ts.drop o :: m)
  | _, _ => none
@[go_sem] theorem zcons_some {o : Nat} {ts : List T} {m : List (List T)} : zcons o (some ts) (some m) = some (ts.drop o :: m) := rfl
@[go_sem] theorem zcons_none1 {o : Nat} {x : Option (List (List T))} : zcons o none x = none := rfl
@[go_sem] theorem zcons_none2 {o : Nat} {x : Option (List T)} : zcons o x none = none := by cases x <;> rfl
@[go_sem] theorem zcaps_nil : zcaps X [] = some [] := rfl
@[go_sem] theorem zcaps_cons {p : Nat × Nat} {l : List (Nat × Nat)} : zcaps X (p :: l) = zcons p.2 (X p.1) (zcaps X l) := by
  show (match X p.1, zcaps X l with | some ts, some m => some (ts.drop p.2 :: m) | _, _ => none) = _
  cases X p.1 <;> cases zcaps X l <;> rfl
@[go_sem] theorem zA_agg {cs : List C} : zA X (.agg cs) = .agg (cs.map (zC X)) := rfl
@[go_sem] theorem zA_iptr {cs : List T} : zA X (.iptr cs) = .iptr cs := rfl
@[go_sem] theorem zA_junk : zA X .junk = .junk := rfl
@[go_sem] theorem zA_undef : zA X undefA = undefA := rfl
@[go_sem] theorem zA_litI {k : IntKind} {n : Int} : zA X (litI k n) = litI k n := rfl
@[go_sem] theorem zA_litB {y : Bool} : zA X (litB y) = litB y := rfl
@[go_sem] theorem zC_t {x : T} : zC X (.t x) = .t x := rfl
@[go_sem] theorem zC_ptr {b o : Nat} : zC X (.ptr b o) = if (X b).isSome then .t .junk else .ptr b o := rfl
@[go_sem] theorem zC_vec {b s o n : Nat} : zC X (.vec b s o n) = if (X b).isSome then .t .junk else .vec b s o n := rfl
@[go_sem] theorem zC_cells {α : Type} {f : α → List T} {xs : List α} : (cellsL f xs).map (zC X) = cellsL f xs := by unfold cellsL; rw [List.map_map]; rfl
@[go_sem] theorem zC_map {l : List T} : (l.map C.t).map (zC X) = l.map .t := by rw [List.map_map]; rfl
@[go_sem] theorem HasX_nil {H : Heap} : HasX H [] = True := rfl
@[go_sem] theorem HasX_cons {H : Heap} {b : Nat} {ts : List T} {l : List (Nat × List T)} : HasX H ((b, ts) :: l) = (H b = some (ts.map .t) ∧ HasX H l) := rfl
@[go_sem] theorem zC_acc {α : Type} {b sz : Nat} {xs : List α} (h : (X b).isSome = false) : zC X (accC b sz xs) = accC b sz xs := by
  cases xs with
  | nil => rfl
  | cons y ys => show (if (X b).isSome then C.t .junk else .vec b sz 0 _) = _; rw [h]; rfl
end
/-- What is told, cell by cell. -/
inductive FzCs (H : Heap) : List C → List T → Prop where
  | nil : FzCs H [] []
  | cons {c : C} {x : T} {cs : List C} {xs : List T} : FzC H c x → FzCs H cs xs → FzCs H (c :: cs) (x :: xs)
theorem FzCs.get {H : Heap} {cs : List C} {xs : List T} (h : FzCs H cs xs) : xs.length = cs.length ∧ ∀ j (hj : j < cs.length) (hj' : j < xs.length), FzC H cs[j] xs[j] := by
  induction h with
  | nil => exact ⟨rfl, fun j hj => by simp at hj⟩
  | cons h1 _ ih =>
    refine ⟨by simp [ih.1], fun j hj hj' => ?_⟩
    cases j with
    | zero => exact h1
    | succ j => exact ih.2 j (by simpa using hj) (by simpa using hj')
theorem fz_Cs {H : Heap} {cs : List C} {xs : List T} (h : FzCs H cs xs) : FzA H (.agg cs) (.agg xs) := .agg h.get.1 h.get.2
attribute [go_sem] Option.isSome_none
end Go.Abs
