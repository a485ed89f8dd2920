/- At every input the call answers true and leaves its arguments as they were; no conditions. -/
import Derived.Test.YtgnfgaioeldagaaGreatMe
set_option linter.unusedSimpArgs false
set_option linter.unusedVariables false
namespace Go.Abs
open Go

/-! ### Slices that grow from nil -/
/-- A slice that was nil and has grown by appending; its block is b. -/
def accC {α : Type} (b sz : Nat) (xs : List α) : C := match xs with | [] => .t (.seq (some true) []) | _ :: _ => .vec b sz 0 xs.length
def accH {α : Type} (f : α → List T) (xs : List α) (o : Option (List C)) : Option (List C) := match xs with | [] => o | _ :: _ => some (cellsL f xs)
def accE {α : Type} (b : Nat) (f : α → List T) (xs : List α) : List (Nat × List C) := match xs with | [] => [] | _ :: _ => [(b, cellsL f xs)]
def accD {α : Type} (b : Nat) (xs : List α) : List Nat := match xs with | [] => [] | _ :: _ => [b]
def accJ {α : Type} (xs : List α) : C := match xs with | [] => .t (.seq (some true) []) | _ :: _ => .t .junk
abbrev accA {α : Type} (b sz : Nat) (xs : List α) : AV := .one (accC b sz xs)
section
variable {α : Type} {b sz : Nat} {f : α → List T} {xs : List α}
@[go_sem] theorem accC_nil : accC b sz ([] : List α) = .t (.seq (some true) []) := rfl
@[go_sem] theorem accE_nil : accE b f [] = [] := rfl
@[go_sem] theorem accH_nil {o : Option (List C)} : accH f [] o = o := rfl
theorem accC_cons {x : α} : accC b sz (x :: xs) = .vec b sz 0 (xs.length + 1) := rfl
theorem accE_cons {x : α} : accE b f (x :: xs) = [(b, cellsL f (x :: xs))] := rfl
theorem accH_cons {x : α} {o : Option (List C)} : accH f (x :: xs) o = some (cellsL f (x :: xs)) := rfl
@[go_sem] theorem accD_nil : accD b ([] : List α) = [] := rfl
@[go_sem] theorem elemD_zero {x : α} : elemD f (x :: xs) 0 = f x := rfl
theorem tail_one {x : α} : ((x :: xs).take (xs.length + 1)).drop 1 = xs := by simp
@[go_sem] theorem lookH_acc {l : List (Nat × List C)} {t : Nat} : lookH (accE b f xs ++ l) t = if t = b then accH f xs (lookH l t) else lookH l t := by
  cases xs with
  | nil => simp [accE, accH]
  | cons x xs => rfl
@[go_sem] theorem AllH_acc {σ : St} {l : List (Nat × List C)} : AllH σ (accE b f xs ++ l) = ((xs = [] ∨ σ.H b = some (cellsL f xs)) ∧ AllH σ l) := by
  cases xs with
  | nil => simp [accE]
  | cons x xs => simp [accE, AllH]
@[go_sem] theorem acc_or {o : Option (List C)} : (xs = [] ∨ accH f xs o = some (cellsL f xs)) = True := by cases xs <;> simp [accH]
@[go_sem] theorem map_accE : (accE b f xs).map (fun p => p.1) = accD b xs := by cases xs <;> rfl
@[go_sem] theorem map_accE' : (accE b f xs).map Prod.fst = accD b xs := by cases xs <;> rfl
@[go_sem] theorem refsH_acc {D : List Nat} {l : List (Nat × List C)} : refsH D (accE b f xs ++ l) = refsH D l := by
  cases xs with
  | nil => rfl
  | cons x xs => show ((cellsL f (x :: xs)).all (refsC D) && refsH D l) = _; rw [cellsL_refs, Bool.true_and]
@[go_sem] theorem refsC_acc {D : List Nat} : refsC D (accC b sz xs) = (xs.isEmpty || D.contains b) := by cases xs <;> rfl
@[go_sem] theorem contains_acc {D : List Nat} {t : Nat} : (accD b xs ++ D).contains t = ((t == b && !xs.isEmpty) || D.contains t) := by
  cases xs with
  | nil => simp [accD]
  | cons x xs => show (b :: D).contains t = _; rw [List.contains_cons]; simp
@[go_sem] theorem lenOf_acc : (AV.one (accC b sz xs)).lenOf = some xs.length := by cases xs <;> rfl
@[go_sem] theorem lenOk_acc {P : Program} {t : TypeId} : lenOk P t (.one (accC b sz xs)) = (isSliceD (tdesc P t) = true) := by cases xs <;> simp [accC, lenOk, AV.lenOf]
@[go_sem] theorem jC_acc {b' : Nat} : jC b' (accC b sz xs) = if b = b' then accJ xs else accC b sz xs := by
  cases xs with
  | nil => simp [accC, accJ, jC]
  | cons y ys => simp [accC, accJ, jC]
@[go_sem] theorem fC_acc {b' s n : Nat} {x : T} : fC b' s n x (accC b sz xs) = if b = b' then (match xs with | [] => .t (.seq (some true) []) | _ :: _ => if sz = s ∧ xs.length = n then .t x else .t .junk) else accC b sz xs := by
  cases xs with
  | nil => simp [accC, fC]
  | cons y ys => simp [accC, fC]
@[go_sem] theorem cellsOf_acc : (AV.one (accC b sz xs)).cellsOf = some [accC b sz xs] := rfl
@[go_sem] theorem castS_ne {n : Nat} : ((n : Int) + 1 = 0) = False := eq_false (by omega)
@[go_sem] theorem castS_pos {n : Nat} : ((0 : Int) < (n : Int) + 1) = True := eq_true (by omega)
@[go_sem] theorem castS_toNat {n : Nat} : ((n : Int) + 1).toNat = n + 1 := by omega
@[go_sem] theorem castS_sub {n : Nat} : (n : Int) + 1 - 1 = n := by omega
theorem orNot1 {x y : Bool} : (x || (!x || y)) = true := by cases x <;> rfl
theorem orNot2 {x : Bool} : (x || !x) = true := by cases x <;> rfl
theorem orNot3 {x y z : Bool} : (x || (y || (!x || z))) = true := by cases x <;> cases y <;> rfl
theorem orNot4 {x y z u : Bool} : (x || (y || (z || (!x || u)))) = true := by cases x <;> cases y <;> cases z <;> rfl
attribute [go_sem] accA orNot1 orNot2 orNot3 orNot4 List.map_append List.cons_append List.nil_append
/-- It may be forgotten whether slices in a block are nil. -/
inductive WeakC : C → C → Prop where
  | refl {c : C} : WeakC c c
  | seq {nl : Option Bool} {ys : List (List T)} : WeakC (.t (.seq nl ys)) (.t (.seq none ys))
inductive WeakL : List C → List C → Prop where
  | nil : WeakL [] []
  | cons {c c' : C} {l l' : List C} : WeakC c c' → WeakL l l' → WeakL (c :: l) (c' :: l')
theorem WeakL.len {l l' : List C} (h : WeakL l l') : l.length = l'.length := by
  induction h with
  | nil => rfl
  | cons _ _ ih => simp [ih]
theorem WeakL.get {l l' : List C} (h : WeakL l l') : ∀ j (hj : j < l.length) (hj' : j < l'.length), WeakC l[j] l'[j] := by
  induction h with
  | nil => intro j hj; simp at hj
  | cons h _ ih =>
    intro j hj hj'
    cases j with
    | zero => exact h
    | succ j => exact ih j (by simpa using hj) (by simpa using hj')
theorem RC.weakC {w : World} {ok : Nat → Prop} {ρ : Nat → Option Nat} {c c' : C} {v : Value} (h : RC w ok ρ c v) (hw : WeakC c c') : RC w ok ρ c' v := by
  cases hw with
  | refl => exact h
  | seq =>
    cases h with
    | t h => cases h with
      | seq g1 g2 g0 g3 g4 g5 g6 g7 g8 => exact .t (.seq g1 g2 g0 (fun e => by cases e) (fun e => by cases e) g5 g6 g7 g8)
theorem gstep_weakH {σ : St} (b : Nat) {cs cs' : List C} (hb : σ.H b = some cs) (hw : WeakL cs cs') : GStep σ (σ.withH (upd σ.H b (some cs'))) := by
  intro ρ ok a w h
  refine ⟨ρ, ok, ⟨⟨fun b' cs2 hb' => ?_, fun b' hb' => ?_, h.inj, h.okR⟩, h.size, h.slots, h.defers, h.small⟩, Goes.refl ρ ok w⟩
  · simp only [St.withH, upd] at hb'
    split at hb'
    · rename_i e; subst e; cases hb'
      obtain ⟨c, arr, el, k1, k2, k3, k4⟩ := h.heap _ _ hb
      exact ⟨c, arr, el, k1, k2, by rw [← hw.len]; exact k3, fun j hj hj' => (k4 j (by rw [hw.len]; exact hj) hj').weakC (hw.get j _ hj)⟩
    · exact h.heap b' cs2 hb'
  · simp only [St.withH, upd] at hb'
    split at hb'
    · cases hb'
    · exact h.dom b' hb'
/-- Nothing speaks of block b any more but its owner. -/
theorem SR.junk {ρ : Nat → Option Nat} {ok : Nat → Prop} {a : Act} {w : World} {σ : St} {cs : List C} (h : SR ρ ok (σ.withH (upd σ.H b (some cs))) a w) (hcs : cs.all treeC = true) : SR ρ ok (σ.renew b cs) a w := by
  refine ⟨⟨fun b' cs' hb' => ?_, fun b' hb' => ?_, h.inj, h.okR⟩, h.size, fun t => ?_, h.defers, h.small⟩
  · simp only [renew_H] at hb'
    split at hb'
    · rename_i e
      cases hb'
      subst e
      exact h.heap b' cs (by show upd σ.H b' (some cs) b' = _; simp [upd])
    · rename_i e
      cases hσ : σ.H b' with
      | none => rw [hσ] at hb'; cases hb'
      | some cs0 =>
        rw [hσ] at hb'; cases hb'
        obtain ⟨c, arr, el, h1, h2, h3, h4⟩ := h.heap b' cs0 (by show upd σ.H b (some cs) b' = _; simp [upd, e, hσ])
        refine ⟨c, arr, el, h1, h2, by simpa using h3, fun j hj hj' => ?_⟩
        simp only [List.length_map] at hj
        rw [List.getElem_map]
        exact (h4 j hj hj').junked fun _ _ _ h => h
  · simp only [renew_H] at hb'
    split at hb'
    · cases hb'
    · rename_i e
      refine h.dom b' ?_
      show upd σ.H b (some cs) b' = none
      simp only [upd, e, if_false]
      cases hσ : σ.H b' with
      | none => rfl
      | some _ => rw [hσ] at hb'; cases hb'
  · exact (h.slots t).junked fun _ _ _ h => h
end
section
variable {P : Program} {m : Nat} {σ : St} {K : AV → St → Prop} {d : Option Nat} {ty : TypeId} {pos : String} {af : Array Edge} {g : Option (Nat × Bool)} {x y : Operand} {t t' : TypeId} {α : Type} {f : α → List T} {sz bytes : Nat}
theorem cellsL_tree {xs : List α} : (cellsL f xs).all treeC = true := by
  simp only [cellsL, List.all_eq_true, List.mem_map]
  rintro x ⟨y, _, rfl⟩; rfl
/-- append of one element or more to a slice that grows from nil. -/
theorem opA_app_acc (hty : AppTy P t t' sz bytes) (hf : ∀ x, (f x).length = sz) {nl : Option Bool} {yv : List (List T)} (xs ys : List α) {b : Nat} (hx : ev σ.s x = accA b sz xs) (hcs : σ.H b = accH f xs none) (hy : ev σ.s y = .one (.t (.seq nl yv))) (hys : yv = ys.map f)
    (hne : ys ≠ []) (hb : (xs.length + ys.length) * bytes ≤ 2 ^ 47) (hbp : b < PIN) (hK : K (accA b sz (xs ++ ys)) (σ.renew b (cellsL f (xs ++ ys)))) :
    OpA P m ⟨d, .call { callee := .builtin .append, args := #[x, y], argTypes := #[t, t'] }, ty, pos, af, g⟩ σ K := by
  obtain ⟨h1, h2, h3, h4, h5, h6, h7, rfl, rfl, h10⟩ := hty
  subst hys
  cases xs with
  | nil =>
    have := app_nil (P := P) (σ := σ) (d := b) (o := ⟨d, .call { callee := .builtin .append, args := #[x, y], argTypes := #[t, t'] }, ty, pos, af, g⟩) rfl h1 h2 h3 h4 h5 h6 h7 h10 hx hy (fun z hz => by obtain ⟨w, _, rfl⟩ := List.mem_map.1 hz; exact hf w) (by simpa using hne) (by simpa using hb) hcs hbp
    rw [List.length_map] at this
    have e : accA b (tsize P (telem P t)) ([] ++ ys) = .one (.vec b (tsize P (telem P t)) 0 ys.length) := by
      cases ys with
      | nil => exact absurd rfl hne
      | cons _ _ => rfl
    rw [e] at hK
    refine opA_by0 (σ' := σ.renew b (cellsL f ([] ++ ys))) (fun ρ ok a w h => ?_) rfl hK
    obtain ⟨v, w', ρ', ok', k1, k2, k3, k4⟩ := this ρ ok a w h
    exact ⟨v, w', ρ', ok', k1, k2, SR.junk k3 cellsL_tree, k4⟩
  | cons z zs =>
    have := app_vec (P := P) (σ := σ) (o := ⟨d, .call { callee := .builtin .append, args := #[x, y], argTypes := #[t, t'] }, ty, pos, af, g⟩) rfl h1 h2 h3 h4 h5 h6 h7 h10 hx hcs (cellsL_length hf) hy (fun z hz => by obtain ⟨w, _, rfl⟩ := List.mem_map.1 hz; exact hf w) (by simpa using hb) hbp
    rw [cellsL_jC, List.length_map] at this
    have e : cellsL f (z :: zs) ++ (ys.map f).flatten.map C.t = cellsL f (z :: zs ++ ys) := by rw [cellsL_append]; rfl
    rw [e] at this
    have e2 : accA b (tsize P (telem P t)) (z :: zs ++ ys) = .one (.vec b (tsize P (telem P t)) 0 ((z :: zs).length + ys.length)) := by
      show AV.one (.vec b _ 0 (z :: (zs ++ ys)).length) = _
      simp; omega
    rw [e2] at hK
    exact opA_by0 this rfl hK
/-- What has grown is told. -/
theorem fz_acc {H : Heap} {xs : List α} {b : Nat} (h : ∀ x, (f x).length = sz) (hb : xs = [] ∨ H b = some (cellsL f xs)) : FzC H (accC b sz xs) (eL f xs) := by
  cases xs with
  | nil => exact .weak
  | cons x xs =>
    rcases hb with hb | hb
    · cases hb
    · exact fz_vec h hb rfl
theorem fz_accA {H : Heap} {xs : List α} {b : Nat} (h : ∀ x, (f x).length = sz) (hb : xs = [] ∨ H b = some (cellsL f xs)) : FzA H (accA b sz xs) (.one (eL f xs)) := .one (fz_acc h hb)
end
end Go.Abs
namespace Go.Abs
open Go
section
variable {P : Program}
/-- A call to which functions may be handed that have caught nothing: it changes nothing that was there. -/
def ACall (P : Program) (f : FuncId) (args : List AV) (r : TV) : Prop :=
  (∀ (as : Array Value) w, (callFunc f as).run P w = .ok (.enter f as) w) ∧
  ∀ (ok : Nat → Prop) (w : World) (vs : Array Value), (∀ n, ok n → n < w.heap.size) → RArgs w ok noρ args vs →
    Calls P f vs w fun e w' => ∃ v ok', e = .returned v ∧ RA w' ok' noρ (emb r) v ∧ Goes noρ ok w noρ ok' w' ∧ ∀ n, ok' n → n < w'.heap.size
theorem acall_of_wpA' (hm : P.follows .mixedOrders = true) {f : FuncId} {fn : Func} {c : Code} {args : List AV} {r : TV} (hent : ∀ (as : Array Value) w, (callFunc f as).run P w = .ok (.enter f as) w) (hf : P.funcs[f]? = some fn) (hb : fn.body = some c)
    (hn : args.length ≤ fn.ntmps) (hsm : fn.ntmps ≤ PIN) (h : wpA P c (retQ P fn.results.toList r) (initSt fn.ntmps args noH)) : ACall P f args r := by
  refine ⟨hent, fun ok w vs hok hv => calls_of_wp hf hb (Code.wp_mono ?_ (code_sound hm c _ _ noρ ok _ w (init_SR ⟨fun b cs hb => (by cases hb), fun _ _ => rfl, fun _ _ _ h => (by cases h), fun n hn => ⟨hok n hn, fun _ h => (by cases h)⟩⟩ hv (by rw [hv.1]; simpa using hn) hsm) h))⟩
  rintro e a w' ⟨σ, ρ', ok', ⟨he, hres, hfz⟩, s, g⟩
  obtain ⟨v, r1, r2⟩ := results_sound s hres
  have hok2 : ∀ n, okAll ok' ρ' n → n < w'.heap.size := fun n hn => by
    rcases hn with hn | ⟨b, hb⟩
    · exact (s.okR n hn).1
    · exact himg s.toHR hb
  have hg2 : Goes noρ ok w noρ (okAll ok' ρ') w' := by
    refine ⟨g.size, g.same, g.shape, fun b n hb => (by cases hb), fun n hn => .inl (g.up n hn), fun n hn => ?_, fun _ _ => .inl rfl, g.env⟩
    rcases hn with hn | ⟨b, hb⟩
    · exact g.down n hn
    · rcases g.img b n hb with ⟨b', h1⟩ | h1
      · cases h1
      · exact .inr (.inr h1)
  have hfin : a.defers = [] ∧ ∃ v, (results fn a.tmps).run P w' = .ok v w' ∧ ∃ v' ok', Ending.returned v = .returned v' ∧ RA w' ok' noρ (emb r) v' ∧ Goes noρ ok w noρ ok' w' ∧ ∀ n, ok' n → n < w'.heap.size :=
    ⟨s.defers, v, r1, v, okAll ok' ρ', rfl, hfz.sound s.toHR r2, hg2, hok2⟩
  rcases he with rfl | rfl <;> exact hfin
theorem acall_of_wpA (hm : P.follows .mixedOrders = true) {f : FuncId} {fn : Func} {c : Code} {n : Nat} {rs : List ResultVar} {args : List AV} {r : TV} (hent : ∀ (as : Array Value) w, (callFunc f as).run P w = .ok (.enter f as) w) (hf : P.funcs[f]? = some fn)
    (hb : fn.body = some c) (hn : fn.ntmps = n) (hrs : fn.results = rs.toArray) (hl : args.length ≤ n) (hsm : n ≤ PIN) (h : wpA P c (retQ P rs r) (initSt n args noH)) : ACall P f args r := by
  subst hn; have e : fn.results.toList = rs := by rw [hrs]
  subst e; exact acall_of_wpA' hm hent hf hb hl hsm h
theorem call_a {m : Nat} {f : FuncId} {args : List AV} {r : TV} {σ : St} {K : AV → St → Prop} (hm : m = 2) (h : ACall P f args r) (hc : args.all (refsA []) = true) (hK : K (emb r) σ) : CallA P m f args σ K := by
  refine .inr (.inr (.inl ⟨hm, emb r, σ, rfl, ⟨h.1, fun ρ ok a w vs hs hv => ?_⟩, hK⟩))
  refine (h.2 ok w vs (fun n hn => (hs.okR n hn).1) ⟨hv.1, fun i hi hi' => ?_⟩).mono ?_
  · have h1 := (hv.2 i hi hi').keep (D := []) (List.all_eq_true.1 hc _ (List.getElem_mem hi))
    have e : (fun b => if b ∈ ([] : List Nat) then ρ b else none) = noρ := by funext b; simp [noρ]
    rwa [e] at h1
  · rintro e w' ⟨v, ok', rfl, hr, hg, hlt⟩
    obtain ⟨s1, s2⟩ := hs.pure hg hlt
    exact ⟨v, ρ, ok', rfl, RA_tree hr _ rfl, s1, s2⟩
end
end Go.Abs
namespace Go.Abs
open Go
section
variable {P : Program}
theorem v_inv {s : Sem Value} {nx : Next} {w w' : World} (h : (do pure (Next.value (← s)) : Sem Next).run P w = .ok nx w') : ∃ u, nx = .value u := by
  rw [Sem.run_bind] at h
  cases hs : s.run P w with
  | ok v w1 => rw [hs] at h; simp only [Result.andThen, Sem.run_pure] at h; cases h; exact ⟨v, rfl⟩
  | halt a b => rw [hs] at h; simp only [Result.andThen] at h; cases h
/-- A literal slice as a tree, wherever its first part lies. -/
theorem opA_buildT {m : Nat} {σ : St} {K : AV → St → Prop} {d : Option Nat} {ty : TypeId} {pos : String} {af : Array Edge} {g : Option (Nat × Bool)} {t : TypeId} {n : Nat} {ps : List (Nat × Operand)}
    (h : tok P t = true ∧ isSliceD (tdesc P t) = true ∧ tok P (telem P t) = true ∧ n * tsize P (telem P t) ≤ 2 ^ 24 ∧ 0 < n * tsize P (telem P t) ∧ ((tzero P (telem P t)).map (·.length)) = some (tsize P (telem P t)) ∧
      (buildSliceA P t n (ps.map fun p => (p.1, ev σ.s p.2))).isSome = true) (hK : K ((buildSliceA P t n (ps.map fun p => (p.1, ev σ.s p.2))).getD .junk) σ) : OpA P m ⟨d, .buildSlice t n ps.toArray, ty, pos, af, g⟩ σ K := by
  refine opA_by0 (σ' := σ) (fun ρ ok a w hs => ?_) rfl hK
  obtain ⟨h1, h2, h3, h4, h5, h6, h7⟩ := h
  have := op_buildSlice hs (o := ⟨d, .buildSlice t n ps.toArray, ty, pos, af, g⟩) rfl h1 h2 h3 h4 h5 h6 h7
  obtain ⟨nx, v, w', ρ', ok', k1, hnx, k2, k3, k4⟩ := this
  have hv : ∃ u, nx = .value u := by
    simp only [execOp] at k1
    exact v_inv k1
  rcases hnx with rfl | ⟨rfl, _⟩
  · exact ⟨v, w', ρ', ok', k1, by simpa using k2, k3, k4⟩
  · obtain ⟨u, hu⟩ := hv; cases hu
end
end Go.Abs
namespace Go.Abs
open Go
/-! ### Less is known of what lies deep in a tree -/
inductive TW : T → T → Prop where
  | refl {x : T} : TW x x
  | seq {nl nl' : Option Bool} {xs ys : List (List T)} : (nl' = nl ∨ nl' = none) → xs.length = ys.length → (∀ i (h : i < xs.length) (h' : i < ys.length), xs[i].length = ys[i].length) →
      (∀ i (h : i < xs.length) (h' : i < ys.length) j (g : j < xs[i].length) (g' : j < ys[i].length), TW (xs[i][j]) (ys[i][j])) → TW (.seq nl xs) (.seq nl' ys)
theorem RT.tw {w : World} {ok : Nat → Prop} : ∀ {x y : T}, TW x y → ∀ {v : Value}, RT w ok x v → RT w ok y v := by
  intro x y h
  induction h with
  | refl => intro v h; exact h
  | @seq nl nl' xs ys h0 h1 h2 _ ih =>
    intro v h
    cases h with
    | @seq _ _ A n c sz u blk off g1 g2 g0 g3 g4 g5 g6 g7 g8 =>
      refine .seq (sz := sz) (u := u) (blk := blk) (off := off) (g1.trans h1) g2 g0 (fun e => ?_) (fun e => ?_) ?_ (fun hne => g6 (fun e => hne (List.length_eq_zero_iff.1 (by rw [← h1, e]; rfl)))) (fun i hi j hj => ?_) (fun i hi j hj => ?_)
      · rcases h0 with h0 | h0
        · exact g3 (by rw [← h0]; exact e)
        · rw [h0] at e; cases e
      · rcases h0 with h0 | h0
        · exact g4 (by rw [← h0]; exact e)
        · rw [h0] at e; cases e
      · intro y hy
        obtain ⟨i, hi, rfl⟩ := List.mem_iff_getElem.1 hy
        rw [← h2 i (by rw [h1]; exact hi) hi]
        exact g5 _ (List.getElem_mem _)
      · have hi' : i < xs.length := by rw [h1]; exact hi
        exact g7 i hi' j (by rw [h2 i hi' hi]; exact hj)
      · have hi' : i < xs.length := by rw [h1]; exact hi
        have hj' : j < xs[i].length := by rw [h2 i hi' hi]; exact hj
        exact ih i hi' hi j hj' hj (g8 i hi' j hj')
/-- A list of elements, each of which is known less. -/
inductive TWs : List T → List T → Prop where
  | nil : TWs [] []
  | cons {x y : T} {xs ys : List T} : TW x y → TWs xs ys → TWs (x :: xs) (y :: ys)
theorem TWs.get {xs ys : List T} (h : TWs xs ys) : xs.length = ys.length ∧ ∀ j (g : j < xs.length) (g' : j < ys.length), TW xs[j] ys[j] := by
  induction h with
  | nil => exact ⟨rfl, fun j g => by simp at g⟩
  | cons h _ ih =>
    refine ⟨by simp [ih.1], fun j g g' => ?_⟩
    cases j with
    | zero => exact h
    | succ j => exact ih.2 j (by simpa using g) (by simpa using g')
inductive TWss : List (List T) → List (List T) → Prop where
  | nil : TWss [] []
  | cons {x y : List T} {xs ys : List (List T)} : TWs x y → TWss xs ys → TWss (x :: xs) (y :: ys)
theorem TWss.get {xs ys : List (List T)} (h : TWss xs ys) : xs.length = ys.length ∧ ∀ i (g : i < xs.length) (g' : i < ys.length), TWs xs[i] ys[i] := by
  induction h with
  | nil => exact ⟨rfl, fun j g => by simp at g⟩
  | cons h _ ih =>
    refine ⟨by simp [ih.1], fun j g g' => ?_⟩
    cases j with
    | zero => exact h
    | succ j => exact ih.2 j (by simpa using g) (by simpa using g')
theorem TW.list {nl nl' : Option Bool} {xs ys : List (List T)} (h0 : nl' = nl ∨ nl' = none) (h : TWss xs ys) : TW (.seq nl xs) (.seq nl' ys) :=
  .seq h0 h.get.1 (fun i g g' => (h.get.2 i g g').get.1) fun i g g' j k k' => (h.get.2 i g g').get.2 j k k'
theorem TW.weak {nl : Option Bool} {xs : List (List T)} : TW (.seq nl xs) (.seq none xs) := .seq (.inr rfl) rfl (fun _ _ _ => rfl) fun _ _ _ _ _ _ => .refl
theorem TWs.refl : ∀ {xs : List T}, TWs xs xs
  | [] => .nil
  | _ :: _ => .cons .refl TWs.refl
theorem TWss.refl : ∀ {xs : List (List T)}, TWss xs xs
  | [] => .nil
  | _ :: _ => .cons TWs.refl TWss.refl
/-- The same of what is handed over. -/
inductive TVW : TV → TV → Prop where
  | one {x y : T} : TW x y → TVW (.one x) (.one y)
  | agg {xs ys : List T} : TWs xs ys → TVW (.agg xs) (.agg ys)
inductive TVWs : List TV → List TV → Prop where
  | nil : TVWs [] []
  | cons {x y : TV} {xs ys : List TV} : TVW x y → TVWs xs ys → TVWs (x :: xs) (y :: ys)
theorem TVW.refl1 {x : T} : TVW (.one x) (.one x) := .one .refl
theorem TVW.reflA {xs : List T} : TVW (.agg xs) (.agg xs) := .agg .refl
theorem RA.tw {w : World} {ok : Nat → Prop} {ρ : Nat → Option Nat} {x y : TV} (h : TVW x y) {v : Value} (hr : RA w ok ρ (emb x) v) : RA w ok ρ (emb y) v := by
  cases h with
  | one h =>
    cases hr with
    | one hr => cases hr with
      | t hr => exact .one (.t (hr.tw h))
  | @agg xs ys h =>
    cases hr with
    | @agg _ vs h1 h2 =>
      obtain ⟨e, g⟩ := h.get
      simp only [List.length_map] at h1 h2
      refine .agg (by simp only [List.length_map]; rw [h1, e]) fun j hj hj' => ?_
      simp only [List.length_map] at hj
      have := h2 j (by rw [e]; exact hj) hj'
      rw [List.getElem_map] at this ⊢
      cases this with
      | t hr => exact .t (hr.tw (g j (by rw [e]; exact hj) hj))
theorem TVWs.get {xs ys : List TV} (h : TVWs xs ys) : xs.length = ys.length ∧ ∀ j (g : j < xs.length) (g' : j < ys.length), TVW xs[j] ys[j] := by
  induction h with
  | nil => exact ⟨rfl, fun j g => by simp at g⟩
  | cons h _ ih =>
    refine ⟨by simp [ih.1], fun j g g' => ?_⟩
    cases j with
    | zero => exact h
    | succ j => exact ih.2 j (by simpa using g) (by simpa using g')
theorem PCall.tw {P : Program} {f : FuncId} {tvs tvs' : List TV} {r : TV} (hp : PCall P f tvs r) (h : TVWs tvs' tvs) : PCall P f tvs' r := by
  obtain ⟨e, g⟩ := h.get
  refine ⟨hp.1, fun ok w vs hok hv => hp.2 ok w vs hok ⟨by rw [hv.1]; simp [e], fun i hi hi' => ?_⟩⟩
  simp only [List.length_map] at hi
  have := hv.2 i (by simp only [List.length_map]; rw [e]; exact hi) hi'
  rw [List.getElem_map] at this ⊢
  exact this.tw (g i (by rw [e]; exact hi) hi)
end Go.Abs
