/- At every input the call answers true and leaves its arguments as they were; no conditions. -/
import Derived.Test.YtgnfgaioeldagaaGreatMa
import Derived.KernelRfl
set_option linter.unusedSimpArgs false
set_option linter.unusedVariables false
namespace Go.Abs
open Go

section
variable {P : Program} {o : Oper} {σ : St} {ρ : Nat → Option Nat} {ok : Nat → Prop} {a : Act} {w : World}

theorem lenOk_spec {t : TypeId} {x : AV} (h : lenOk P t x) : ((isSliceD (tdesc P t) = true ∧ ∀ v, x ≠ .one (.t (.lit v))) ∧ x.lenOf.isSome = true) ∨ (tdesc P t = .string ∧ ∃ s, x = .one (.t (.lit (.string s)))) := by
  cases x with
  | one c =>
    cases c with
    | t x =>
      cases x with
      | lit v => cases v <;> first | exact .inr ⟨h, _, rfl⟩ | exact h.elim
      | seq nl xs => exact .inl ⟨⟨h.1, fun v e => (by cases e)⟩, h.2⟩
      | junk => exact .inl ⟨⟨h.1, fun v e => (by cases e)⟩, h.2⟩
      | clo => exact .inl ⟨⟨h.1, fun v e => (by cases e)⟩, h.2⟩
    | _ => exact .inl ⟨⟨h.1, fun v e => (by cases e)⟩, h.2⟩
  | _ => exact .inl ⟨⟨h.1, fun v e => (by cases e)⟩, h.2⟩

theorem op_min (h : SR ρ ok σ a w) {args : Array Operand} {ats : Array TypeId} (ho : o.op = .call { callee := .builtin .min, args := args, argTypes := ats }) (h1 : minOk (args.toList.map (ev σ.s))) :
    OpRes P o σ (minV (args.toList.map (ev σ.s))) σ.H ρ ok a w := by
  obtain ⟨l⟩ := args
  match l, h1 with
  | [x, y], h1 =>
    have hx := RA_ev h x
    have hy := RA_ev h y
    simp only [List.map_cons, List.map_nil, minOk] at h1
    simp only [List.map_cons, List.map_nil, minV]
    have inv : ∀ {z : AV} {k : IntKind} {n : Int} {v : Value}, z.intOf = some (k, n) → RA w ok ρ z v → v = .int k n := fun {z k n v} hz hr => by
      unfold AV.intOf at hz
      split at hz
      · cases hz
        cases hr with
        | one hr => cases hr with | t hr => cases hr; rfl
      · cases hz
    split at h1
    · rename_i k a0 k' b0 e1 e2
      subst h1
      have v1 := inv e1 hx
      have v2 := inv e2 hy
      refine .value h (v := .int k (if b0 < a0 then b0 else a0)) ?_ (.one (.t (.lit rfl)))
      simp only [execOp, ho, resolve, Sem.run_bind, Sem.run_pure, Result.andThen, List.map_toArray, List.map_cons, List.map_nil, v1, v2]
      rfl
    · exact h1.elim
theorem op_len (h : SR ρ ok σ a w) {args : Array Operand} {ats : Array TypeId} (ho : o.op = .call { callee := .builtin .len, args := args, argTypes := ats }) {x : Operand} {t : TypeId} (ha : args.size = 1) (hx : args[0]? = some x) (ht : ats[0]? = some t)
    (h1 : tok P t = true) (h2 : lenOk P t (ev σ.s x)) :
    OpRes P o σ (litI .i64 (((ev σ.s x).lenOf).getD 0 : Nat)) σ.H ρ ok a w := by
  have h2 := lenOk_spec h2
  have hax := RA_ev h x
  have hargs : args = #[x] := by
    have h0 : 0 < args.size := by omega
    apply Array.ext
    · simp [ha]
    · intro i hi hi'
      have : i = 0 := by omega
      subst this
      rw [Array.getElem?_eq_getElem h0] at hx
      simpa using hx
  refine .value h (v := .int .i64 (((ev σ.s x).lenOf).getD 0 : Nat)) ?_ (.one (.t (.lit rfl)))
  simp only [execOp, ho, resolve, Sem.run_bind, Sem.run_pure, Result.andThen, hargs]
  unfold invoke builtin
  simp only []
  refine v_run ?_
  unfold Builtin.len_
  simp only [ht, List.map_toArray, List.map_cons, List.map_nil, List.getElem?_toArray, List.getElem?_cons_zero]
  rw [Sem.run_bind, run_underlying h1]
  simp only [Result.andThen]
  generalize a.eval x = vx at *
  generalize ev σ.s x = ax at *
  rcases h2 with ⟨⟨h2, h4⟩, h3⟩ | ⟨h2, h3⟩
  · rw [slice_of h2]
    obtain ⟨n, hn⟩ := Option.isSome_iff_exists.1 h3
    rw [hn]
    unfold AV.lenOf at hn
    split at hn
    · cases hn
      obtain ⟨A, c, rfl, _⟩ := hax.seq_inv
      rfl
    · cases hn
      obtain ⟨c, cap, n0, k1, rfl, k2, k3, k4⟩ := hax.vec_inv
      rfl
    · exact absurd rfl (h4 _)
    · cases hn
  · rw [h2]
    obtain ⟨s, rfl⟩ := h3
    cases hax with | one hax => cases hax with | t hax => cases hax with | lit _ =>
    rfl

/-- Every operation that is reckoned does what is reckoned. -/
theorem simple_sound (h : SR ρ ok σ a w) {d : Nat} (hdp : d < PIN) (hs : simpleOp o.op = true) (hok : opOk P d (ev σ.s) σ.H o.op) :
    OpRes P o σ (opV P d (ev σ.s) σ.H o.op) (opH P d (ev σ.s) σ.H o.op) ρ ok a w := by
  generalize ho : o.op = op at *
  cases op with
  | move x => exact op_move h (.inl ho)
  | assign x => exact op_move h (.inr ho)
  | pick c x y => exact op_pick h ho hok
  | alloc t => exact op_alloc h ho hok.1 hok.2.1 hok.2.2 hdp
  | box t x => exact op_box h ho hok.1 hok.2 hdp
  | build t parts => exact op_build h ho hok.1 hok.2.1 hok.2.2
  | buildSlice t n parts =>
    obtain ⟨h1, h2, h3, h4, h5, h6, h7⟩ := hok
    exact op_buildSlice h ho h1 h2 h3 h4 h5 h6 h7
  | load t x => exact op_load h ho hok.1 hok.2.1 hok.2.2
  | store t x y =>
    obtain ⟨h1, h2⟩ := hok
    split at h2
    · rename_i b off hx
      split at h2
      · rename_i cs ns hb hy
        have := op_store h ho h1 hx hb hy h2.1 h2.2
        simpa [opV, opH, hx, hb, hy] using this
      · exact h2.elim
    · exact h2.elim
  | nilCheck x => exact op_nilCheck h ho hok
  | binOp op t x y t' => exact op_binOp h ho hok.1 hok.2.1 hok.2.2
  | unOp op t x => exact op_unOp h ho hok
  | convert s t x => exact op_convert h ho hok.1 hok.2.1 hok.2.2
  | makeSlice t l c =>
    obtain ⟨h1, h2, h3, h4, h5, h6, h7, h8⟩ := hok
    split at h8
    · rename_i k n k' m hl hc
      have := op_makeSlice h ho h1 h2 h3 h4 h5 h6 h7 hl hc h8.1 h8.2.1 h8.2.2.1 h8.2.2.2 hdp
      have e : idx (ev σ.s l) = n.toNat := by simp [idx, hl]
      simpa [opV, opH, e] using this
    · exact h8.elim
  | slice t x lo hi mx =>
    obtain ⟨h0, h1, h2, h5⟩ := hok
    cases mx with
    | some _ => simp at h0
    | none =>
      split at h5
      · rename_i n hn
        split at h5
        · rename_i l hh hl hhi
          have key : OpRes P o σ (sliceV (tsize P (telem P t)) (ev σ.s x) l hh) σ.H ρ ok a w := by
            unfold sliceTy at h2
            split at h2
            · rename_i s hs
              have hs2 : n = s.size := by rw [hs] at hn; exact (Option.some.inj hn).symm
              subst hs2
              exact op_sliceStr h ho h1 h2 hs hl hhi h5.1 h5.2.1
            · exact op_slice h ho h1 h2.1 h2.2.1 h2.2.2 hn hl hhi h5.1 h5.2.1 h5.2.2
          simpa [opV, opH, hn, hl, hhi] using key
        · exact h5.elim
      · exact h5.elim
  | fieldAddr t x f =>
    obtain ⟨h1, h2, h3, h4, h5, h6⟩ := hok
    exact op_fieldAddr h ho h1 h2 h3 h4 h5 h6
  | field t x f =>
    obtain ⟨h1, h2, h3, h4, h5⟩ := hok
    split at h5
    · rename_i cs hx
      have := op_field h ho h1 h2 h3 h4 hx h5
      simpa [opV, opH, hx] using this
    · exact h5.elim
  | indexAddr t x y =>
    obtain ⟨h1, h3, h2⟩ := hok
    rcases h2 with ⟨h2, h4, h5⟩ | ⟨h2, h4, h5⟩
    · split at h5
      · rename_i n hn
        have := op_indexAddr h ho h1 h2 h3 h4 hn h5
        simpa [opV, opH, h2] using this
      · exact h5.elim
    · have hns : isSliceD (tdesc P t) = false := by rw [arr_of h2]; rfl
      have := op_indexArr h ho h1 h2 h3 h4 h5
      simpa [opV, opH, hns] using this
  | index t x y =>
    obtain ⟨h1, h2⟩ := hok
    rcases h2 with ⟨h2, h3, h4, h5⟩ | ⟨h2, h3⟩
    · split at h5
      · rename_i cs hx
        have := op_index h ho h1 h2 h3 h4 hx h5
        simpa [opV, opH, hx] using this
      · exact h5.elim
    · split at h3
      · rename_i s hx
        have := op_indexStr h ho h1 h2 hx h3
        simpa [opV, opH, hx] using this
      · exact h3.elim
  | extract x i =>
    simp only [opOk] at hok
    split at hok
    · rename_i vs hx
      have := op_extract (P := P) h ho hx hok
      simpa [opV, opH, hx] using this
    · exact hok.elim
  | makeFunc fn first caps =>
    obtain ⟨h1, h2, h3⟩ := hok
    cases fn <;> first | exact h2.elim | exact op_makeFunc h ho h1 h3
  | call c =>
    obtain ⟨callee, args, ats⟩ := c
    cases callee with
    | value f => simp [simpleOp] at hs
    | invoke r m => simp [simpleOp] at hs
    | builtin b =>
      cases b <;> first | (simp [simpleOp] at hs; done) | skip
      · simp [simpleOp] at hs
        simp only [opOk] at hok
        split at hok
        · rename_i x t hx ht
          have := op_len h ho hs hx ht hok.1 hok.2
          simpa [opV, opH, hx] using this
        · exact hok.elim
      · exact op_min h ho hok
  | _ => simp [simpleOp] at hs

end
end Go.Abs
namespace Go.Abs
open Go

/-! ### Steps as a relation -/
def StepR (P : Program) (m : Nat) (o : Oper) (σ : St) (v : AV) (τ : St) : Prop := stepA P m o σ fun v' τ' => v' = v ∧ τ' = τ

section
variable {P : Program} {m : Nat}

theorem CallA_iff {f : FuncId} {args : List AV} {σ : St} {K : AV → St → Prop} : CallA P m f args σ K ↔ ∃ v τ, CallA P m f args σ (fun v' τ' => v' = v ∧ τ' = τ) ∧ K v τ := by
  constructor
  · rintro (⟨tvs, r, h1, h2, h3⟩ | ⟨h0, r, H', h2, h3⟩ | ⟨h0, r, σ', hn, h2, h3⟩ | ⟨h0, r, h2, h3⟩)
    · exact ⟨_, _, .inl ⟨tvs, r, h1, h2, rfl, rfl⟩, h3⟩
    · exact ⟨_, _, .inr (.inl ⟨h0, r, H', h2, rfl, rfl⟩), h3⟩
    · exact ⟨_, _, .inr (.inr (.inl ⟨h0, r, σ', hn, h2, rfl, rfl⟩)), h3⟩
    · exact ⟨_, _, .inr (.inr (.inr ⟨h0, r, h2, rfl, rfl⟩)), h3⟩
  · rintro ⟨v, τ, ⟨tvs, r, h1, h2, rfl, rfl⟩ | ⟨h0, r, H', h2, rfl, rfl⟩ | ⟨h0, r, σ', hn, h2, rfl, rfl⟩ | ⟨h0, r, h2, rfl, rfl⟩, hK⟩
    · exact .inl ⟨tvs, r, h1, h2, hK⟩
    · exact .inr (.inl ⟨h0, r, H', h2, hK⟩)
    · exact .inr (.inr (.inl ⟨h0, r, σ', hn, h2, hK⟩))
    · exact .inr (.inr (.inr ⟨h0, r, h2, hK⟩))

theorem CallF_iff {f : AV} {args : List AV} {σ : St} {K : AV → St → Prop} : CallF P m f args σ K ↔ ∃ v τ, CallF P m f args σ (fun v' τ' => v' = v ∧ τ' = τ) ∧ K v τ := by
  unfold CallF
  cases calleeA f with
  | none => simp
  | some p => exact CallA_iff

theorem stepA_iff {o : Oper} {σ : St} {K : AV → St → Prop} : stepA P m o σ K ↔ ∃ v τ, StepR P m o σ v τ ∧ K v τ := by
  unfold StepR stepA
  split
  · exact CallF_iff
  · split
    · constructor
      · rintro ⟨h1, h2⟩; exact ⟨_, _, ⟨h1, rfl, rfl⟩, h2⟩
      · rintro ⟨v, τ, ⟨h1, rfl, rfl⟩, h2⟩; exact ⟨h1, h2⟩
    · constructor
      · rintro ⟨r, σ', hn, h1, h2⟩; exact ⟨_, _, ⟨r, σ', hn, h1, rfl, rfl⟩, h2⟩
      · rintro ⟨v, τ, ⟨r, σ', hn, h1, rfl, rfl⟩, h2⟩; exact ⟨r, σ', hn, h1, h2⟩

end

/-! ### One operation is sound -/
theorem emb_size_aux : ∀ (l : List TV), (emb.embs l).length = l.length
  | [] => rfl
  | x :: l => by simp [emb.embs, emb_size_aux l]

theorem embs_get : ∀ (l : List TV) (i : Nat) (h : i < (emb.embs l).length) (h' : i < l.length), (emb.embs l)[i] = emb l[i]
  | [], i, h, _ => by simp [emb.embs] at h
  | x :: l, 0, _, _ => rfl
  | x :: l, i + 1, h, h' => by simpa [emb.embs] using embs_get l i (by simpa [emb.embs] using h) (by simpa using h')

theorem RA_tree {w : World} {ok : Nat → Prop} {ρ ρ' : Nat → Option Nat} {x : AV} {v : Value} (h : RA w ok ρ x v) : ∀ tv, x = emb tv → RA w ok ρ' (emb tv) v := by
  induction h with
  | one h =>
    intro tv e
    cases tv with
    | one t => simp only [emb, AV.one.injEq] at e; subst e; cases h with | t h => exact .one (.t h)
    | agg ts => simp [emb] at e
    | tup xs => simp [emb] at e
    | ip ts => simp [emb] at e
  | agg h1 h2 =>
    intro tv e
    cases tv with
    | one t => simp [emb] at e
    | agg ts =>
      simp only [emb, AV.agg.injEq] at e
      subst e
      refine .agg h1 fun j hj hj' => ?_
      have := h2 j hj hj'
      simp only [List.getElem_map] at this ⊢
      cases this with | t h => exact .t h
    | tup xs => simp [emb] at e
    | ip ts => simp [emb] at e
  | iptr h1 h2 h3 =>
    intro tv e
    cases tv with
    | ip ts => simp only [emb, AV.iptr.injEq] at e; subst e; exact .iptr h1 h2 h3
    | _ => simp [emb] at e
  | tup h1 h2 ih =>
    intro tv e
    cases tv with
    | one t => simp [emb] at e
    | agg ts => simp [emb] at e
    | ip ts => simp [emb] at e
    | tup xs =>
      simp only [emb, AV.tup.injEq] at e
      subst e
      refine .tup h1 fun j hj hj' => ?_
      have hj2 : j < xs.length := by rw [emb_size_aux] at hj; exact hj
      have := ih j hj hj' xs[j] (embs_get xs j hj hj2)
      rw [embs_get xs j hj hj2]
      exact this
  | junk => intro tv e; cases tv <;> simp [emb] at e

section
variable {P : Program} {m : Nat} {o : Oper} {σ : St} {ρ : Nat → Option Nat} {ok : Nat → Prop} {a : Act} {w : World}

theorem himg (h : HR ρ ok σ.H w) {b c : Nat} (hb : ρ b = some c) : c < w.heap.size := by
  cases hH : σ.H b with
  | none => rw [h.dom b hH] at hb; cases hb
  | some cs =>
    obtain ⟨c', arr', el', h1, h2, _⟩ := h.heap b cs hH
    rw [hb] at h1; cases h1
    rcases Nat.lt_or_ge c w.heap.size with h3 | h3
    · exact h3
    · simp [Array.getElem?_eq_none h3] at h2

/-- A pure call leaves the state as it is. -/
theorem SR.pure (h : SR ρ ok σ a w) {ok' : Nat → Prop} {w' : World} (hg : Goes noρ ok w noρ ok' w') (hlt : ∀ n, ok' n → n < w'.heap.size) : SR ρ ok' σ a w' ∧ Goes ρ ok w ρ ok' w' := by
  have hsame : ∀ n, n < w.heap.size → w'.heap[n]? = w.heap[n]? := fun n hn => hg.same n hn (fun b e => by cases e)
  have hk : Keeps ok w w' := fun n hn => hsame n (h.okR n hn).1
  refine ⟨⟨⟨fun b cs hb => ?_, h.dom, h.inj, fun n hn => ⟨hlt n hn, fun b hb => ?_⟩⟩, h.size, fun t => h.lift hk hg.up hg.shape (fun _ _ h => h) t, h.defers, h.small⟩, ⟨hg.size, fun n hn _ => hsame n hn, hg.shape, fun b n hb => .inl ⟨b, hb⟩, hg.up, fun n hn => ?_, fun _ _ => .inl rfl, hg.env⟩⟩
  · obtain ⟨c, arr, el, h1, h2, h3, h4⟩ := h.heap b cs hb
    exact ⟨c, arr, el, h1, by rw [hsame c (himg h.toHR h1)]; exact h2, h3, fun j hj hj' => (h4 j hj hj').mono hk hg.up hg.shape (fun _ _ h => h)⟩
  · rcases hg.down n hn with h1 | ⟨b', h1⟩ | h1
    · exact (h.okR n h1).2 b hb
    · cases h1
    · have := himg h.toHR hb; omega
  · rcases hg.down n hn with h1 | ⟨b', h1⟩ | h1
    · exact .inl h1
    · cases h1
    · exact .inr (.inr h1)

theorem MCall.step {f : FuncId} {args : List AV} {r : AV} {H' : Heap} (hc : MCall P f args σ.H r H') : MStep P f args σ r (σ.withH H') := by
  refine ⟨hc.1, fun ρ ok a w vs h hv => (hc.2 ρ ok w vs h.toHR hv).mono ?_⟩
  rintro e w' ⟨v, ρ', ok', he, hr, hH, hg, hρ⟩
  have hk : Keeps ok w w' := fun n hn => hg.same n (h.okR n hn).1 (h.okR n hn).2
  exact ⟨v, ρ', ok', he, hr, ⟨hH, h.size, fun t => h.lift hk hg.up hg.shape hρ t, h.defers, h.small⟩, hg⟩

theorem call_sound {f : FuncId} {args : List AV} {K : AV → St → Prop} (h : SR ρ ok σ a w) {vs : Array Value} (hv : RArgs w ok ρ args vs) (hc : CallA P m f args σ K) :
    (∀ (as : Array Value) w, (callFunc f as).run P w = .ok (.enter f as) w) ∧
    Calls P f vs w fun e w' => ∃ x v τ ρ' ok', e = .returned v ∧ K x τ ∧ RA w' ok' ρ' x v ∧ SR ρ' ok' τ a w' ∧ Goes ρ ok w ρ' ok' w' ∧ τ.n = σ.n := by
  rcases hc with ⟨tvs, r, rfl, h1, hK⟩ | ⟨_, r, H', h1, hK⟩ | ⟨_, r, σ', hn, h1, hK⟩ | ⟨_, r, h1, hK⟩
  · refine ⟨h1.1, (h1.2 ok w vs (fun n hn => (h.okR n hn).1) ⟨hv.1, fun i hi hi' => ?_⟩).mono ?_⟩
    · have := hv.2 i hi hi'
      simp only [List.getElem_map] at this ⊢
      exact RA_tree this _ rfl
    · rintro e w' ⟨v, ok', rfl, hr, hg, hlt⟩
      obtain ⟨s1, s2⟩ := h.pure hg hlt
      exact ⟨emb r, v, σ, ρ, ok', rfl, hK, RA_tree hr _ rfl, s1, s2, rfl⟩
  · refine ⟨h1.1, (h1.step.2 ρ ok a w vs h hv).mono ?_⟩
    rintro e w' ⟨v, ρ', ok', rfl, hr, hs, hg⟩
    exact ⟨r, v, _, ρ', ok', rfl, hK, hr, hs, hg, rfl⟩
  · refine ⟨h1.1, (h1.2 ρ ok a w vs h hv).mono ?_⟩
    rintro e w' ⟨v, ρ', ok', rfl, hr, hs, hg⟩
    exact ⟨r, v, _, ρ', ok', rfl, hK, hr, hs, hg, hn⟩
  · replace h1 := h1 σ.H fun _ _ h => h
    refine ⟨h1.1, (h1.step.2 ρ ok a w vs h hv).mono ?_⟩
    rintro e w' ⟨v, ρ', ok', rfl, hr, hs, hg⟩
    exact ⟨r, v, _, ρ', ok', rfl, hK, hr, hs, hg, rfl⟩

theorem RArgs_ev (h : SR ρ ok σ a w) (args : Array Operand) : RArgs w ok ρ (args.toList.map (ev σ.s)) (args.map a.eval) := by
  refine ⟨by simp, fun i hi hi' => ?_⟩
  simp only [List.getElem_map, Array.getElem_map, Array.getElem_toList]
  exact RA_ev h _

theorem RArgs.append {xs ys : List AV} {us vs : Array Value} (h : RArgs w ok ρ xs us) (h' : RArgs w ok ρ ys vs) : RArgs w ok ρ (xs ++ ys) (us ++ vs) := by
  refine ⟨by simp [h.1, h'.1], fun i hi hi' => ?_⟩
  by_cases hx : i < xs.length
  · rw [List.getElem_append_left hx, Array.getElem_append_left (by rw [h.1]; exact hx)]
    exact h.2 i hx _
  · rw [List.getElem_append_right (by omega), Array.getElem_append_right (by rw [h.1]; omega)]
    have e : i - us.size = i - xs.length := by rw [h.1]
    simp only [e]
    exact h'.2 _ _ _

/-- One operation: whatever stands behind it. -/
theorem step_sound {K : AV → St → Prop} {Q : Exit → Act → World → Prop} (h : SR ρ ok σ a w) (hd : dstOk σ.n o.dst = true) (hs : stepA P m o σ K) :
    o.wp P a w (fun a' w' => ∃ x v τ ρ' ok', K x τ ∧ a' = a.put o.dst v ∧ RA w' ok' ρ' x v ∧ SR ρ' ok' τ a w' ∧ Goes ρ ok w ρ' ok' w' ∧ τ.n = σ.n) Q := by
  unfold stepA at hs
  split at hs
  · rename_i f args ats ho
    unfold CallF at hs
    split at hs
    · rename_i fid caps hf
      have hcv : ∃ vs, a.eval f = .func (.func fid) #[] vs ∧ RArgs w ok ρ caps vs := by
        unfold calleeA at hf
        split at hf
        · rename_i f' caps' hef
          cases hf
          have hfv := RA_ev h f
          rw [hef] at hfv
          generalize hv : a.eval f = vf at hfv
          cases hfv with
          | one hfv =>
            cases hfv with
            | fn g1 g2 =>
              rename_i vs
              refine ⟨vs, rfl, by simpa using g1, fun i hi hi' => ?_⟩
              obtain ⟨c, e1, e2⟩ := g2 i (by simpa using hi) hi'
              rw [e2]
              simp only [List.getElem_map, capA]
              exact .one (.ptr e1)
        · rename_i f' caps' hef
          cases hf
          have hfv := RA_ev h f
          rw [hef] at hfv
          generalize hv : a.eval f = vf at hfv
          cases hfv with
          | one hfv =>
            cases hfv with
            | t hfv =>
              cases hfv with
              | clo g1 g2 g3 g4 =>
                rename_i vs blk off u
                refine ⟨vs, rfl, by simpa using g1, fun i hi hi' => ?_⟩
                have hi2 : i < caps'.length := by simpa using hi
                rw [(g2 i hi2 hi').1]
                simp only [List.getElem_map]
                exact .iptr (u := fun j => u i j) (g2 i hi2 hi').2 (fun j hj => g3 i hi2 j hj) (fun j hj => g4 i hi2 j hj)
        · cases hf
      obtain ⟨vs, hv, hcap⟩ := hcv
      obtain ⟨hent, hcalls⟩ := call_sound h ((RArgs_ev h args).append hcap) hs
      unfold Oper.wp
      have hrun : (execOp a.eval o).run P w = .ok (.enter fid (args.map a.eval ++ vs)) w := by
        simp only [execOp, ho, resolve, hv, Deferred.ofValue, Sem.run_bind, Sem.run_pure, Result.andThen, invoke]
        rw [Array.empty_append]
        exact hent _ _
      rw [hrun]
      simp only [Oper.upon]
      refine hcalls.mono ?_
      rintro e w' ⟨x, v, τ, ρ', ok', rfl, hK, hr, hsr, hg, hn⟩
      exact ⟨x, v, τ, ρ', ok', hK, rfl, hr, hsr, hg, hn⟩
    · exact hs.elim
  · split at hs
    · rename_i hsim
      obtain ⟨hok, hK⟩ := hs
      obtain ⟨nx, v, w', ρ', ok', hrun, hnx, hr, hsr, hg⟩ := simple_sound h (by have := h.small; cases hdd : o.dst with
        | none => exact Nat.zero_lt_succ _
        | some d => rw [hdd] at hd; simp only [dstOk, decide_eq_true_eq] at hd; exact Nat.lt_of_lt_of_le hd this) hsim hok
      unfold Oper.wp
      rw [hrun]
      rcases hnx with rfl | ⟨rfl, rfl⟩
      · exact ⟨_, v, _, ρ', ok', hK, rfl, hr, hsr, hg, rfl⟩
      · exact ⟨_, undef, _, ρ', ok', hK, rfl, hr, hsr, hg, rfl⟩
    · obtain ⟨r, σ', hn, h1, hK⟩ := hs
      obtain ⟨v, w', ρ', ok', hrun, hr, hsr, hg⟩ := h1 ρ ok a w h
      unfold Oper.wp
      rw [hrun]
      exact ⟨r, v, σ', ρ', ok', hK, rfl, hr, hsr, hg, hn⟩

theorem getD_get {tmps : Array Value} {t : Nat} {v : Value} (h : tmps.getD t undef = v) (hv : ∀ vs, v ≠ .tuple vs) : tmps[t]? = some v := by
  rw [Array.getD_eq_getD_getElem?] at h
  cases hx : tmps[t]? with
  | none => simp [hx] at h; exact absurd h.symm (hv _)
  | some u => simp [hx] at h; rw [h]

theorem gslot_eq : ∀ (l : List Oper) (j : Nat), gslot l j = (l[j]?).bind (·.dst)
  | [], j => by simp [gslot]
  | o :: l, 0 => by simp [gslot]
  | o :: l, n + 1 => by simpa [gslot] using gslot_eq l n

theorem wanted_spec (h : SR ρ ok σ a w) {ops : Array Oper} {b : Bool} (hw : wantedA ops.toList σ o.guard = some b) : Region.wanted o (yielded ops a.tmps) = b := by
  unfold wantedA at hw
  unfold Region.wanted
  cases hg : o.guard with
  | none => simp [hg] at hw; simpa using hw
  | some p =>
    obtain ⟨j, want⟩ := p
    simp only [hg] at hw ⊢
    rw [gslot_eq] at hw
    unfold yielded
    rw [Array.getElem?_toList] at hw
    cases hd : (ops[j]?).bind (·.dst) with
    | none =>
      simp only [hd] at hw
      cases hw
      simp
    | some t =>
      simp only [hd] at hw
      simp only [Option.bind_some]
      have hs := h.slots t
      simp only [wantS, wantV] at hw
      split at hw
      · rename_i b' hb'
        cases hw
        rw [hb'] at hs
        generalize hv : a.tmps.getD t undef = v at hs
        cases hs with | one hs => cases hs with | t hs => cases hs with | lit _ =>
        rw [getD_get hv (by intro vs e; cases e)]
        simp
      · rename_i hb'
        cases hw
        rw [hb'] at hs
        generalize hv : a.tmps.getD t undef = v at hs
        cases hs with
        | tup g1 g2 =>
          rw [Array.getD_eq_getD_getElem?] at hv
          cases hx : a.tmps[t]? with
          | none => simp
          | some u => simp [hx] at hv; subst hv; simp
      · cases hw

theorem SR.undefA (h : SR ρ ok σ a w) (hd : dstOk σ.n o.dst = true) : SR ρ ok (σ.putO o.dst undefA) (a.put o.dst undef) w :=
  h.putA hd (.tup rfl fun j hj => by simp at hj)

/-- A region whose order is the text's. -/
theorem ops_sound {ops : Array Oper} {Qa : St → Prop} {Q : Exit → Act → World → Prop} : ∀ (l : List Oper) (σ : St) (ρ : Nat → Option Nat) (ok : Nat → Prop) (a : Act) (w : World), SR ρ ok σ a w → runOps P m ops.toList Qa l σ →
    (∀ σ' ρ' ok' a' w', Qa σ' → SR ρ' ok' σ' a' w' → Goes ρ ok w ρ' ok' w' → Q .normal a' w') → wpList P ops Q l a w := by
  intro l
  induction l with
  | nil => intro σ ρ ok a w h hr hq; exact hq σ ρ ok a w hr h (Goes.refl _ _ _)
  | cons o l ih =>
    intro σ ρ ok a w h hr hq
    obtain ⟨hd, hr⟩ := hr
    unfold BR at hr
    unfold wpList
    split at hr
    · rename_i hw
      rw [if_pos (wanted_spec h hw)]
      refine .inl (Oper.wp_mono ?_ (step_sound h hd hr))
      rintro a' w' ⟨x, v, τ, ρ', ok', hK, rfl, hx, hsr, hg, hn⟩
      exact ih _ ρ' ok' _ w' (hsr.putA (by rw [hn]; exact hd) hx) hK (fun σ'' ρ'' ok'' a'' w'' q s g => hq σ'' ρ'' ok'' a'' w'' q s (hg.trans g))
    · rename_i hw
      rw [if_neg (by rw [wanted_spec h hw]; simp)]
      exact ih _ ρ ok _ w (h.undefA hd) hr hq
    · exact hr.elim

end
end Go.Abs
namespace Go.Abs
open Go

/-! ### Orders -/
section
variable {P : Program} {m : Nat} {ops : Array Oper}

/-- One operation, its guard, its slot. -/
def Sp (P : Program) (m : Nat) (ops : Array Oper) (o : Oper) (σ σ' : St) : Prop :=
  dstOk σ.n o.dst = true ∧ ((wantedA ops.toList σ o.guard = some true ∧ ∃ v τ, StepR P m o σ v τ ∧ σ' = τ.putO o.dst v) ∨ (wantedA ops.toList σ o.guard = some false ∧ σ' = σ.putO o.dst undefA))

theorem runOps_cons {Q : St → Prop} {o : Oper} {l : List Oper} {σ : St} : runOps P m ops.toList Q (o :: l) σ ↔ ∃ σ', Sp P m ops o σ σ' ∧ runOps P m ops.toList Q l σ' := by
  simp only [runOps, BR, Sp]
  constructor
  · rintro ⟨hd, h⟩
    split at h
    · rename_i hw
      obtain ⟨v, τ, h1, h2⟩ := stepA_iff.1 h
      exact ⟨_, ⟨hd, .inl ⟨hw, v, τ, h1, rfl⟩⟩, h2⟩
    · rename_i hw; exact ⟨_, ⟨hd, .inr ⟨hw, rfl⟩⟩, h⟩
    · exact h.elim
  · rintro ⟨σ', ⟨hd, ⟨hw, v, τ, h1, rfl⟩ | ⟨hw, rfl⟩⟩, h2⟩
    · refine ⟨hd, ?_⟩
      rw [hw]
      exact stepA_iff.2 ⟨v, τ, h1, h2⟩
    · refine ⟨hd, ?_⟩
      rw [hw]
      exact h2

/-- What an operation looks at reads alike in both. -/
def Alike (ops : Array Oper) (o : Oper) (s s' : Nat → AV) : Prop := ∀ t ∈ o.looksAt ops, s t = s' t

theorem Alike.ev {o : Oper} {s s' : Nat → AV} (h : Alike ops o s s') {x : Operand} (hx : x ∈ o.op.operands.toList) : ev s x = ev s' x := by
  cases x with
  | tmp t =>
    refine h t ?_
    unfold Oper.looksAt
    exact List.mem_append_left _ (List.mem_filterMap.2 ⟨.tmp t, hx, rfl⟩)
  | _ => rfl

theorem wantedA_alike {o : Oper} {σ σ' : St} (h : Alike ops o σ.s σ'.s) : wantedA ops.toList σ o.guard = wantedA ops.toList σ' o.guard := by
  unfold wantedA
  cases hg : o.guard with
  | none => rfl
  | some p =>
    obtain ⟨j, want⟩ := p
    simp only [gslot_eq, Array.getElem?_toList]
    cases hd : (ops[j]?).bind (·.dst) with
    | none => rfl
    | some t =>
      have : σ.s t = σ'.s t := h t (by unfold Oper.looksAt; exact List.mem_append_right _ (by simp [hg, hd]))
      simp only [wantS]; rw [this]

theorem map_ev_congr {e e' : Operand → AV} {l : List Operand} (h : ∀ x ∈ l, e x = e' x) : l.map e = l.map e' := List.map_congr_left h

/-- The parts of an operation that are reckoned hang on its operands alone (and on the heap). -/
theorem op_congr {op : Op} {d : Nat} {e e' : Operand → AV} {H : Heap} (h : ∀ x ∈ op.operands.toList, e x = e' x) (hs : simpleOp op = true) :
    opOk P d e H op = opOk P d e' H op ∧ opV P d e H op = opV P d e' H op ∧ opH P d e H op = opH P d e' H op := by
  cases op with
  | move x | assign x | box _ x | load _ x | nilCheck x | unOp _ _ x | convert _ _ x | fieldAddr _ x _ | field _ x _ | extract x _ =>
    have h1 := h x (by simp [Op.operands])
    simp [opOk, opV, opH, h1]
  | pick c x y =>
    have h1 := h c (by simp [Op.operands]); have h2 := h x (by simp [Op.operands]); have h3 := h y (by simp [Op.operands])
    simp [opOk, opV, opH, h1, h2, h3]
  | alloc _ => simp [opOk, opV, opH]
  | store _ x y | binOp _ _ x y _ | makeSlice _ x y | indexAddr _ x y | index _ x y =>
    have h1 := h x (by simp [Op.operands]); have h2 := h y (by simp [Op.operands])
    simp [opOk, opV, opH, h1, h2]
  | build t parts | buildSlice t n parts =>
    have : (parts.toList.map fun p => (p.1, e p.2)) = parts.toList.map fun p => (p.1, e' p.2) := by
      apply List.map_congr_left
      intro p hp
      rw [h p.2 (by simp only [Op.operands]; simpa using ⟨p.1, by simpa using hp⟩)]
    simp [opOk, opV, opH, this]
  | slice t x lo hi mx =>
    have h1 := h x (by simp [Op.operands])
    have h2 : lo.map e = lo.map e' := by cases lo with | none => rfl | some y => simp [h y (by simp [Op.operands])]
    have h3 : hi.map e = hi.map e' := by cases hi with | none => rfl | some y => simp [h y (by simp [Op.operands])]
    simp [opOk, opV, opH, h1, h2, h3]
  | makeFunc fn first caps =>
    have : caps.toList.map e = caps.toList.map e' := List.map_congr_left fun x hx => h x (by simp [Op.operands]; exact .inr (by simpa using hx))
    simp only [opOk, opV, opH, this, and_self]
  | call c =>
    obtain ⟨callee, args, ats⟩ := c
    cases callee with
    | builtin b =>
      have : ∀ x, args[0]? = some x → e x = e' x := fun x hx => h x (by
        have := Array.mem_of_getElem? hx
        simpa [Op.operands, Call.operands] using this)
      have hm : args.toList.map e = args.toList.map e' := map_ev_congr fun x hx => h x (by simpa [Op.operands, Call.operands] using hx)
      cases b <;> first | (simp [simpleOp] at hs; done) | skip
      · cases hx : args[0]? with
        | none => simp [opOk, opV, opH, hx]
        | some x => cases ht : (ats[0]? : Option TypeId) <;> simp [opOk, opV, opH, hx, ht, this x hx]
      · simp only [opOk, opV, opH, hm, and_self]
    | value f => simp [simpleOp] at hs
    | invoke r mth => simp [simpleOp] at hs
  | _ => simp [simpleOp] at hs

/-- A pure operation does not look at the heap, and leaves it. -/
theorem op_pure {op : Op} {d : Nat} {e : Operand → AV} {H H' : Heap} (hc : clsOf m op = .pure) (hs : simpleOp op = true) :
    opOk P d e H op = opOk P d e H' op ∧ opV P d e H op = opV P d e H' op ∧ opH P d e H op = H := by
  cases op with
  | call c =>
    obtain ⟨callee, args, ats⟩ := c
    cases callee with
    | builtin b => cases b <;> exact ⟨rfl, rfl, rfl⟩
    | value f => simp [simpleOp] at hs
    | invoke r mth => simp [simpleOp] at hs
  | alloc | box | makeSlice | load | store => simp [clsOf] at hc
  | move | assign | pick | build | buildSlice | nilCheck | binOp | unOp | convert | slice | fieldAddr | field | indexAddr | index | extract | makeFunc => exact ⟨rfl, rfl, rfl⟩
  | _ => simp [simpleOp] at hs

theorem op_alloc_H {op : Op} {d : Nat} {e : Operand → AV} {H : Heap} (hc : clsOf m op = .alloc) : (opOk P d e H op → H d = none) ∧ (∃ x, (opOk P d e H op → x.isSome = true) ∧ ∀ H, opH P d e H op = upd H d x) ∧
    ∀ H', (opOk P d e H op → H' d = none → opOk P d e H' op) ∧ opV P d e H op = opV P d e H' op := by
  cases op with
  | alloc t => exact ⟨fun h => h.2.2, ⟨_, fun h => h.2.1, fun _ => rfl⟩, fun H' => ⟨fun h h' => ⟨h.1, h.2.1, h'⟩, rfl⟩⟩
  | box t x => exact ⟨fun h => h.2, ⟨_, fun h => h.1, fun _ => rfl⟩, fun H' => ⟨fun h h' => ⟨h.1, h'⟩, rfl⟩⟩
  | makeSlice t l c =>
    refine ⟨fun h => h.2.2.2.2.2.2.1, ⟨_, fun _ => rfl, fun _ => rfl⟩, fun H' => ⟨?_, rfl⟩⟩
    rintro ⟨h1, h2, h3, h4, h5, h6, h7, h8⟩ h'
    exact ⟨h1, h2, h3, h4, h5, h6, h', h8⟩
  | call c => obtain ⟨callee, args, ats⟩ := c; cases callee <;> simp only [clsOf] at hc <;> (repeat' split at hc) <;> cases hc
  | _ => simp only [clsOf] at hc; (repeat' split at hc) <;> cases hc

theorem op_load_H {op : Op} (hc : clsOf m op = .load) : ∃ t x, op = .load t x := by
  cases op with
  | load t x => exact ⟨t, x, rfl⟩
  | call c => obtain ⟨callee, args, ats⟩ := c; cases callee <;> simp only [clsOf] at hc <;> (repeat' split at hc) <;> cases hc
  | _ => simp only [clsOf] at hc; (repeat' split at hc) <;> cases hc

theorem cls_simple {op : Op} (hc : clsOf m op = .alloc ∨ clsOf m op = .load) : simpleOp op = true := by
  cases op with
  | call c => obtain ⟨callee, args, ats⟩ := c; cases callee <;> simp only [clsOf] at hc <;> (repeat' split at hc) <;> simp at hc
  | alloc | box | makeSlice | load => rfl
  | _ => simp only [clsOf] at hc; (repeat' split at hc) <;> simp at hc

theorem cellsAt_upd {H : Heap} {d : Nat} {x : Option (List C)} {v : AV} (h : (cellsAt H v).isSome = true) (hd : H d = none) : cellsAt (upd H d x) v = cellsAt H v := by
  unfold cellsAt at *
  split at h
  · rename_i b off
    simp only [upd]
    split
    · subst b; simp [hd] at h
    · rfl
  · rfl
  · cases h

theorem putO_putO {σ : St} {d d' : Option Nat} {v v' : AV} (h : ∀ x, d = some x → d' ≠ some x) : (σ.putO d v).putO d' v' = (σ.putO d' v').putO d v := by
  cases d with
  | none => rfl
  | some x =>
    cases d' with
    | none => rfl
    | some y =>
      have hne : x ≠ y := fun e => h x rfl (by rw [e])
      simp only [St.putO, St.put]
      congr 1
      funext t
      by_cases h1 : t = y
      · subst h1; simp [Ne.symm hne]
      · simp [h1]

theorem putO_withH {σ : St} {d : Option Nat} {v : AV} {H : Heap} : (σ.withH H).putO d v = (σ.putO d v).withH H := by cases d <;> rfl

theorem Alike.putO {o : Oper} {σ : St} {d : Option Nat} {v : AV} (h : ∀ x, d = some x → x ∉ o.looksAt ops) : Alike ops o (σ.putO d v).s σ.s := by
  intro t ht
  cases d with
  | none => rfl
  | some x => simp only [St.putO, St.put]; rw [if_neg]; rintro rfl; exact h t rfl ht

/-- A call's step, told apart. -/
theorem stepR_call {o : Oper} {f : Operand} {args : Array Operand} {ats : Array TypeId} (ho : o.op = .call { callee := .value f, args := args, argTypes := ats }) {σ : St} {v : AV} {τ : St} :
    StepR P m o σ v τ ↔ CallF P m (ev σ.s f) (args.toList.map (ev σ.s)) σ (fun v' τ' => v' = v ∧ τ' = τ) := by
  unfold StepR stepA; rw [ho]

theorem stepR_simple {o : Oper} (hs : simpleOp o.op = true) {σ : St} {v : AV} {τ : St} :
    StepR P m o σ v τ ↔ opOk P (o.dst.getD 0) (ev σ.s) σ.H o.op ∧ opV P (o.dst.getD 0) (ev σ.s) σ.H o.op = v ∧ σ.withH (opH P (o.dst.getD 0) (ev σ.s) σ.H o.op) = τ := by
  unfold StepR stepA
  split
  · rename_i f args ats ho; rw [ho] at hs; simp [simpleOp] at hs
  · rw [if_pos hs]; exact Iff.rfl

/-- The step of an operation that is not 'full' leaves the slots, and hangs on its operands and the heap alone. -/
theorem stepR_heap {o : Oper} (hc : clsOf m o.op ≠ .full) {σ : St} {v : AV} {τ : St} (h : StepR P m o σ v τ) : (∃ H', τ = σ.withH H') ∧
    ∀ σ' : St, Alike ops o σ.s σ'.s → σ'.H = σ.H → StepR P m o σ' v (σ'.withH τ.H) := by
  by_cases hs : simpleOp o.op = true
  · rw [stepR_simple hs] at h
    obtain ⟨h1, rfl, rfl⟩ := h
    refine ⟨⟨_, rfl⟩, fun σ' ha hH => ?_⟩
    obtain ⟨c1, c2, c3⟩ := op_congr (P := P) (d := o.dst.getD 0) (H := σ.H) (fun x hx => ha.ev hx) hs
    rw [stepR_simple hs, hH, ← c1, ← c2, ← c3]
    exact ⟨h1, rfl, rfl⟩
  · generalize ho : o.op = op at *
    cases op with
    | call c =>
      obtain ⟨callee, args, ats⟩ := c
      cases callee with
      | value f =>
        rw [stepR_call ho] at h
        have hops : ∀ x ∈ f :: args.toList, ∀ σ' : St, Alike ops o σ.s σ'.s → ev σ.s x = ev σ'.s x := fun x hx σ' ha => ha.ev (by rw [ho]; simpa [Op.operands, Call.operands] using hx)
        unfold CallF at h
        cases hcal : calleeA (ev σ.s f) with
        | none => rw [hcal] at h; exact h.elim
        | some p =>
          obtain ⟨fid, caps⟩ := p
          rw [hcal] at h
          have key : ∀ σ' : St, Alike ops o σ.s σ'.s → calleeA (ev σ'.s f) = some (fid, caps) ∧ args.toList.map (ev σ'.s) = args.toList.map (ev σ.s) := fun σ' ha =>
            ⟨by rw [← hops f (by simp) σ' ha]; exact hcal, List.map_congr_left fun x hx => (hops x (by simp [hx]) σ' ha).symm⟩
          rcases h with ⟨tvs, r, h1, h2, rfl, rfl⟩ | ⟨hm, r, H', h2, rfl, rfl⟩ | ⟨hm, _⟩ | ⟨hm, r, h2, rfl, rfl⟩
          · refine ⟨⟨_, rfl⟩, fun σ' ha hH => ?_⟩
            rw [stepR_call ho]
            unfold CallF
            obtain ⟨k1, k2⟩ := key σ' ha
            rw [k1, k2]
            exact .inl ⟨tvs, r, h1, h2, rfl, by rw [← hH]; rfl⟩
          · refine ⟨⟨_, rfl⟩, fun σ' ha hH => ?_⟩
            rw [stepR_call ho]
            unfold CallF
            obtain ⟨k1, k2⟩ := key σ' ha
            rw [k1, k2]
            refine .inr (.inl ⟨hm, r, H', by rw [hH]; exact h2, rfl, rfl⟩)
          · refine absurd ?_ hc
            subst hm
            rfl
          · refine ⟨⟨_, rfl⟩, fun σ' ha hH => ?_⟩
            rw [stepR_call ho]
            unfold CallF
            obtain ⟨k1, k2⟩ := key σ' ha
            rw [k1, k2]
            exact .inr (.inr (.inr ⟨hm, r, by rw [hH]; exact h2, rfl, by rw [← hH]; rfl⟩))
      | _ => first | exact absurd rfl hs | simp [clsOf, hs] at hc
    | _ => first | exact absurd rfl hs | simp [clsOf, hs] at hc

/-- A pure step does not hang on the heap. -/
theorem stepR_pure {o : Oper} (hc : clsOf m o.op = .pure) {σ : St} {v : AV} {τ : St} (h : StepR P m o σ v τ) : τ = σ ∧
    ∀ σ' : St, Alike ops o σ.s σ'.s → StepR P m o σ' v σ' := by
  by_cases hs : simpleOp o.op = true
  · rw [stepR_simple hs] at h
    obtain ⟨h1, rfl, rfl⟩ := h
    refine ⟨by rw [(op_pure hc hs (H' := σ.H)).2.2]; rfl, fun σ' ha => ?_⟩
    obtain ⟨c1, c2, c3⟩ := op_congr (P := P) (d := o.dst.getD 0) (H := σ.H) (fun x hx => ha.ev hx) hs
    obtain ⟨d1, d2, d3⟩ := op_pure (P := P) (d := o.dst.getD 0) (e := ev σ'.s) (H := σ.H) (H' := σ'.H) hc hs
    obtain ⟨e1, e2, e3⟩ := op_pure (P := P) (d := o.dst.getD 0) (e := ev σ'.s) (H := σ'.H) (H' := σ'.H) hc hs
    rw [stepR_simple hs, e3, ← d1, ← d2, ← c1, ← c2]
    exact ⟨h1, rfl, rfl⟩
  · have hm : m = 0 := by
      generalize o.op = op at *
      cases op with
      | call c =>
        obtain ⟨callee, args, ats⟩ := c
        cases callee with
        | value f =>
          simp only [clsOf] at hc
          by_cases h0 : m = 0
          · exact h0
          · rw [if_neg h0] at hc; (repeat' split at hc) <;> cases hc
        | _ => first | exact absurd rfl hs | simp [clsOf, hs] at hc
      | _ => first | exact absurd rfl hs | simp [clsOf, hs] at hc
    have hne : clsOf m o.op ≠ .full := by rw [hc]; simp
    have hH := stepR_heap (ops := ops) hne h
    generalize ho : o.op = op at *
    cases op with
    | call c =>
      obtain ⟨callee, args, ats⟩ := c
      cases callee with
      | value f =>
        rw [stepR_call ho] at h
        unfold CallF at h
        cases hcal : calleeA (ev σ.s f) with
        | none => rw [hcal] at h; exact h.elim
        | some p =>
          obtain ⟨fid, caps⟩ := p
          rw [hcal] at h
          rcases h with ⟨tvs, r, h1, h2, rfl, rfl⟩ | ⟨h0, _⟩ | ⟨h0, _⟩ | ⟨h0, _⟩
          · refine ⟨rfl, fun σ' ha => ?_⟩
            have hops : ∀ x ∈ f :: args.toList, ev σ.s x = ev σ'.s x := fun x hx => ha.ev (by rw [ho]; simpa [Op.operands, Call.operands] using hx)
            rw [stepR_call ho]
            unfold CallF
            have k1 : calleeA (ev σ'.s f) = some (fid, caps) := by rw [← hops f (by simp)]; exact hcal
            have k2 : args.toList.map (ev σ'.s) = args.toList.map (ev σ.s) := List.map_congr_left fun x hx => (hops x (by simp [hx])).symm
            rw [k1, k2]
            exact .inl ⟨tvs, r, h1, h2, rfl, rfl⟩
          · omega
          · omega
          · omega
      | _ => first | exact absurd rfl hs | simp [clsOf, hs] at hc
    | _ => first | exact absurd rfl hs | simp [clsOf, hs] at hc

/-- A reading step leaves the state, and is the same where more is own. -/
theorem stepR_rd {o : Oper} (hc : clsOf m o.op = .rd) {σ : St} {v : AV} {τ : St} (h : StepR P m o σ v τ) : τ = σ ∧
    ∀ σ' : St, Alike ops o σ.s σ'.s → (∀ b cs, σ.H b = some cs → σ'.H b = some cs) → StepR P m o σ' v σ' := by
  generalize ho : o.op = op at *
  cases op with
  | call c =>
    obtain ⟨callee, args, ats⟩ := c
    cases callee with
    | value f =>
      rw [stepR_call ho] at h
      have hops : ∀ x ∈ f :: args.toList, ∀ σ' : St, Alike ops o σ.s σ'.s → ev σ.s x = ev σ'.s x := fun x hx σ' ha => ha.ev (by rw [ho]; simpa [Op.operands, Call.operands] using hx)
      have hm : m = 3 := by
        simp only [clsOf] at hc
        by_cases h3 : m = 3
        · exact h3
        · rw [if_neg h3] at hc; (repeat' split at hc) <;> cases hc
      unfold CallF at h
      cases hcal : calleeA (ev σ.s f) with
      | none => rw [hcal] at h; exact h.elim
      | some p =>
        obtain ⟨fid, caps⟩ := p
        rw [hcal] at h
        have key : ∀ σ' : St, Alike ops o σ.s σ'.s → calleeA (ev σ'.s f) = some (fid, caps) ∧ args.toList.map (ev σ'.s) = args.toList.map (ev σ.s) := fun σ' ha =>
          ⟨by rw [← hops f (by simp) σ' ha]; exact hcal, List.map_congr_left fun x hx => (hops x (by simp [hx]) σ' ha).symm⟩
        rcases h with ⟨tvs, r, h1, h2, rfl, rfl⟩ | ⟨h0, _⟩ | ⟨h0, _⟩ | ⟨_, r, h2, rfl, rfl⟩
        · refine ⟨rfl, fun σ' ha _ => ?_⟩
          rw [stepR_call ho]
          unfold CallF
          obtain ⟨k1, k2⟩ := key σ' ha
          rw [k1, k2]
          exact .inl ⟨tvs, r, h1, h2, rfl, rfl⟩
        · omega
        · omega
        · refine ⟨rfl, fun σ' ha hH => ?_⟩
          rw [stepR_call ho]
          unfold CallF
          obtain ⟨k1, k2⟩ := key σ' ha
          rw [k1, k2]
          exact .inr (.inr (.inr ⟨hm, r, fun H' hH' => h2 H' fun b cs hb => hH' b cs (hH b cs hb), rfl, rfl⟩))
    | _ => simp only [clsOf] at hc; (repeat' split at hc) <;> cases hc
  | _ => simp only [clsOf] at hc; (repeat' split at hc) <;> cases hc

end
end Go.Abs
namespace Go.Abs
open Go

section
variable {P : Program} {m : Nat} {ops : Array Oper}

theorem stepR_n {o : Oper} {σ : St} {v : AV} {τ : St} (h : StepR P m o σ v τ) : τ.n = σ.n := by
  unfold StepR stepA at h
  split at h
  · unfold CallF at h
    split at h
    · rcases h with ⟨_, _, _, _, _, rfl⟩ | ⟨_, _, _, _, _, rfl⟩ | ⟨_, _, σ', hn, _, _, rfl⟩ | ⟨_, _, _, _, rfl⟩
      · rfl
      · rfl
      · exact hn
      · rfl
    · exact h.elim
  · split at h
    · obtain ⟨_, _, rfl⟩ := h; rfl
    · obtain ⟨_, σ', hn, _, _, rfl⟩ := h; exact hn

theorem putO_n {σ : St} {d : Option Nat} {v : AV} : (σ.putO d v).n = σ.n := by cases d <;> rfl
theorem putO_H {σ : St} {d : Option Nat} {v : AV} : (σ.putO d v).H = σ.H := by cases d <;> rfl

theorem swap_old {x y : Oper} (hap1 : x.apart ops y = true) (hap2 : clsApart (clsOf m x.op) (clsOf m y.op) = true) (hcx : clsOf m x.op ≠ .full) (hcy : clsOf m y.op ≠ .full) {σ : St} {v u : AV} {H1 H2 : Heap} (hx : StepR P m x σ v (σ.withH H1)) (hy : StepR P m y ((σ.withH H1).putO x.dst v) u (((σ.withH H1).putO x.dst v).withH H2))
    (hpx : ¬ clsOf m x.op = .pure) (hpy : ¬ clsOf m y.op = .pure) (hrx : ¬ clsOf m x.op = .rd) (hry : ¬ clsOf m y.op = .rd) :
    ∃ τ₁, StepR P m y σ u τ₁ ∧ ∃ τ₂, StepR P m x (τ₁.putO y.dst u) v τ₂ ∧ τ₂.putO x.dst v = (((σ.withH H1).putO x.dst v).withH H2).putO y.dst u := by
  obtain ⟨a1, a2, a3⟩ := Oper.apart_spec hap1
  have hxa : ∀ {w : AV} {H : Heap}, Alike ops x σ.s ((σ.withH H).putO y.dst w).s := fun {w} {H} t ht => by
    rw [putO_withH]; exact ((Alike.putO (σ := σ) (v := w) (ops := ops) (o := x) a3) t ht).symm
  have hya : ∀ {w : AV} {H : Heap}, Alike ops y ((σ.withH H).putO x.dst w).s σ.s := fun {w} {H} t ht => by
    rw [putO_withH]; exact (Alike.putO (σ := σ) (v := w) (ops := ops) (o := y) a1) t ht
  have hfin : ∀ H, ((σ.withH H).putO y.dst u).putO x.dst v = ((σ.withH H).putO x.dst v).putO y.dst u := fun H => putO_putO (fun d hd e => a2 d e (by rw [hd]))
  have hsx : simpleOp x.op = true := cls_simple (m := m) (by cases hkx : clsOf m x.op <;> cases hky : clsOf m y.op <;> simp_all [clsApart])
  have hsy : simpleOp y.op = true := cls_simple (m := m) (by cases hkx : clsOf m x.op <;> cases hky : clsOf m y.op <;> simp_all [clsApart])
  rw [stepR_simple hsx] at hx
  rw [stepR_simple hsy] at hy
  obtain ⟨x1, hv, x3⟩ := hx
  obtain ⟨y1, hu, y3⟩ := hy
  have x3' : opH P (x.dst.getD 0) (ev σ.s) σ.H x.op = H1 := congrArg St.H x3
  have hH0 : ((σ.withH H1).putO x.dst v).H = H1 := by rw [putO_H]; rfl
  rw [hH0] at y1 y3 hu
  obtain ⟨c1, c2, c3⟩ := op_congr (P := P) (d := y.dst.getD 0) (H := H1) (fun z hz => (hya (w := v) (H := H1)).ev hz) hsy
  rw [c3] at y3
  rw [c1] at y1
  rw [c2] at hu
  have y3' : opH P (y.dst.getD 0) (ev σ.s) H1 y.op = H2 := congrArg St.H y3
  have key : ∃ H3, opOk P (y.dst.getD 0) (ev σ.s) σ.H y.op ∧ opV P (y.dst.getD 0) (ev σ.s) σ.H y.op = u ∧ opH P (y.dst.getD 0) (ev σ.s) σ.H y.op = H3 ∧
      opOk P (x.dst.getD 0) (ev σ.s) H3 x.op ∧ opV P (x.dst.getD 0) (ev σ.s) H3 x.op = v ∧ opH P (x.dst.getD 0) (ev σ.s) H3 x.op = H2 := by
    cases hkx : clsOf m x.op with
    | alloc =>
      cases hky : clsOf m y.op with
      | alloc =>
        obtain ⟨p1, ⟨zx, p4, p2⟩, p3⟩ := op_alloc_H (P := P) (m := m) (d := x.dst.getD 0) (e := ev σ.s) (H := σ.H) hkx
        obtain ⟨q1, ⟨zy, q4, q2⟩, q3⟩ := op_alloc_H (P := P) (m := m) (d := y.dst.getD 0) (e := ev σ.s) (H := H1) hky
        have hx0 := p1 x1
        have hy0 := q1 y1
        have hzx := p4 x1
        rw [p2] at x3'
        subst x3'
        have hne : y.dst.getD 0 ≠ x.dst.getD 0 := by
          intro e
          simp only [upd, e, if_true] at hy0
          rw [hy0] at hzx; cases hzx
        have hy1 : σ.H (y.dst.getD 0) = none := by simpa only [upd, hne, if_false] using hy0
        refine ⟨upd σ.H (y.dst.getD 0) zy, (q3 σ.H).1 y1 hy1, by rw [← (q3 σ.H).2]; exact hu, q2 _, (p3 _).1 x1 ?_, by rw [← (p3 _).2]; exact hv, ?_⟩
        · simp only [upd, Ne.symm hne, if_false]; exact hx0
        · rw [p2, ← y3', q2]
          funext n
          simp only [upd]
          by_cases h1 : n = x.dst.getD 0
          · have h2 : n ≠ y.dst.getD 0 := fun e => hne (e ▸ h1)
            simp only [h1, if_true]; rw [if_neg (Ne.symm hne)]
          · simp only [h1, if_false]
      | _ => simp_all [clsApart]
    | load =>
      obtain ⟨tx, ax, hox⟩ := op_load_H hkx
      have hH1 : H1 = σ.H := by rw [← x3', hox]; rfl
      subst hH1
      refine ⟨H2, y1, hu, y3', ?_⟩
      cases hky : clsOf m y.op with
      | alloc =>
        obtain ⟨q1, ⟨zy, q4, q2⟩, q3⟩ := op_alloc_H (P := P) (m := m) (d := y.dst.getD 0) (e := ev σ.s) (H := σ.H) hky
        have hy0 := q1 y1
        rw [q2] at y3'
        subst y3'
        rw [hox] at x1 hv ⊢
        have hc : cellsAt (upd σ.H (y.dst.getD 0) zy) (ev σ.s ax) = cellsAt σ.H (ev σ.s ax) := cellsAt_upd x1.2.1 hy0
        simp only [opOk, opV, opH, hc]
        exact ⟨x1, hv, trivial⟩
      | load =>
        obtain ⟨ty, ay, hoy⟩ := op_load_H hky
        have : H2 = σ.H := by rw [← y3', hoy]; rfl
        subst this
        rw [hox] at x1 hv ⊢
        exact ⟨x1, hv, rfl⟩
      | _ => simp_all [clsApart]
    | _ => cases hky : clsOf m y.op <;> simp [hkx, hky, clsApart] at hap2 <;> simp_all
  obtain ⟨H3, k1, k2, k3, k4, k5, k6⟩ := key
  refine ⟨σ.withH H3, ?_, (σ.withH H2).putO y.dst u, ?_, ?_⟩
  · rw [stepR_simple hsy, k2, k3]; exact ⟨k1, rfl, rfl⟩
  · rw [stepR_simple hsx]
    have hH4 : ((σ.withH H3).putO y.dst u).H = H3 := by rw [putO_H]; rfl
    obtain ⟨d1, d2, d3⟩ := op_congr (P := P) (d := x.dst.getD 0) (H := H3) (fun z hz => (hxa (w := u) (H := H3)).ev hz) hsx
    rw [hH4, ← d1, ← d2, ← d3, k5, k6]
    exact ⟨k4, rfl, by rw [← putO_withH]; rfl⟩
  · rw [show ((σ.withH H1).putO x.dst v).withH H2 = (σ.withH H2).putO x.dst v by rw [← putO_withH]; rfl, hfin]

/-- What an operation does to the heap, where it is wanted. -/
theorem swap_step {x y : Oper} (hap : apartA m ops x y = true) {σ : St} {v u : AV} {τ τ' : St} (hx : StepR P m x σ v τ) (hy : StepR P m y (τ.putO x.dst v) u τ') :
    ∃ τ₁, StepR P m y σ u τ₁ ∧ ∃ τ₂, StepR P m x (τ₁.putO y.dst u) v τ₂ ∧ τ₂.putO x.dst v = τ'.putO y.dst u := by
  unfold apartA at hap
  rw [Bool.and_eq_true] at hap
  obtain ⟨hap1, hap2⟩ := hap
  obtain ⟨a1, a2, a3⟩ := Oper.apart_spec hap1
  have hcx : clsOf m x.op ≠ .full := by intro e; rw [e] at hap2; simp [clsApart] at hap2
  have hcy : clsOf m y.op ≠ .full := by intro e; rw [e] at hap2; cases h : clsOf m x.op <;> simp [clsApart, h] at hap2
  obtain ⟨⟨H1, rfl⟩, hx2⟩ := stepR_heap (ops := ops) hcx hx
  obtain ⟨⟨H2, rfl⟩, hy2⟩ := stepR_heap (ops := ops) hcy hy
  have hxa : ∀ {w : AV} {H : Heap}, Alike ops x σ.s ((σ.withH H).putO y.dst w).s := fun {w} {H} t ht => by
    rw [putO_withH]; exact ((Alike.putO (σ := σ) (v := w) (ops := ops) (o := x) a3) t ht).symm
  have hya : ∀ {w : AV} {H : Heap}, Alike ops y ((σ.withH H).putO x.dst w).s σ.s := fun {w} {H} t ht => by
    rw [putO_withH]; exact (Alike.putO (σ := σ) (v := w) (ops := ops) (o := y) a1) t ht
  have hfin : ∀ H, ((σ.withH H).putO y.dst u).putO x.dst v = ((σ.withH H).putO x.dst v).putO y.dst u := fun H => putO_putO (fun d hd e => a2 d e (by rw [hd]))
  by_cases hpx : clsOf m x.op = .pure
  · -- x is pure
    obtain ⟨e1, px⟩ := stepR_pure (ops := ops) hpx hx
    have hH1 : H1 = σ.H := congrArg St.H e1
    subst hH1
    have sy := hy2 σ (by simpa [withH_self] using hya (w := v) (H := σ.H)) (by rw [putO_H]; rfl)
    refine ⟨σ.withH H2, sy, (σ.withH H2).putO y.dst u, ?_, ?_⟩
    · exact px _ (hxa (w := u) (H := H2))
    · rw [show ((σ.withH σ.H).putO x.dst v).withH H2 = (σ.withH H2).putO x.dst v by rw [← putO_withH]; rfl, hfin]
  · by_cases hpy : clsOf m y.op = .pure
    · obtain ⟨e2, py⟩ := stepR_pure (ops := ops) hpy hy
      have hH2 : H2 = H1 := by have := congrArg St.H e2; rw [putO_H] at this; exact this
      subst hH2
      have sy := py σ (hya (w := v) (H := H2))
      have sx := hx2 (σ.putO y.dst u) (by have := hxa (w := u) (H := σ.H); simpa [withH_self] using this) (by rw [putO_H])
      refine ⟨σ, sy, _, sx, ?_⟩
      show ((σ.putO y.dst u).withH H2).putO x.dst v = (((σ.withH H2).putO x.dst v).withH H2).putO y.dst u
      rw [← putO_withH, hfin, putO_withH, putO_withH, putO_withH, putO_withH]
      rfl
    · by_cases hrx : clsOf m x.op = .rd
      · obtain ⟨e1, rx⟩ := stepR_rd (ops := ops) hrx hx
        have hH1 : H1 = σ.H := congrArg St.H e1
        subst hH1
        have sy := hy2 σ (by simpa [withH_self] using hya (w := v) (H := σ.H)) (by rw [putO_H]; rfl)
        have hH2 : ((σ.withH σ.H).putO x.dst v).withH H2 = (σ.withH H2).putO x.dst v := by rw [← putO_withH]; rfl
        have sy : StepR P m y σ u (σ.withH H2) := sy
        have hext : ∀ b cs, σ.H b = some cs → H2 b = some cs := by
          cases hky : clsOf m y.op with
          | alloc =>
            have hsy : simpleOp y.op = true := cls_simple (m := m) (.inl hky)
            rw [stepR_simple hsy] at sy
            obtain ⟨y1, _, y3⟩ := sy
            obtain ⟨q1, ⟨zy, q4, q2⟩, _⟩ := op_alloc_H (P := P) (m := m) (d := y.dst.getD 0) (e := ev σ.s) (H := σ.H) hky
            have y3' : opH P (y.dst.getD 0) (ev σ.s) σ.H y.op = H2 := congrArg St.H y3
            rw [q2] at y3'
            subst y3'
            have hy0 := q1 y1
            intro b cs hb
            simp only [upd]
            rw [if_neg (by rintro rfl; rw [hy0] at hb; cases hb)]; exact hb
          | load =>
            have hsy : simpleOp y.op = true := cls_simple (m := m) (.inr hky)
            obtain ⟨ty, ay, hoy⟩ := op_load_H hky
            rw [stepR_simple hsy] at sy
            obtain ⟨_, _, y3⟩ := sy
            have y3' : opH P (y.dst.getD 0) (ev σ.s) σ.H y.op = H2 := congrArg St.H y3
            rw [hoy] at y3'
            have : H2 = σ.H := y3'.symm
            subst this
            exact fun _ _ h => h
          | rd =>
            have := congrArg St.H (stepR_rd (ops := ops) hky sy).1
            have this : H2 = σ.H := this
            subst this
            exact fun _ _ h => h
          | pure => exact absurd hky hpy
          | _ => simp [hrx, hky, clsApart] at hap2
        refine ⟨σ.withH H2, sy, (σ.withH H2).putO y.dst u, rx _ (hxa (w := u) (H := H2)) (by rw [putO_H]; exact hext), ?_⟩
        rw [hH2, hfin]
      · by_cases hry : clsOf m y.op = .rd
        · obtain ⟨e2, ry⟩ := stepR_rd (ops := ops) hry hy
          have hH2 : H2 = H1 := by have := congrArg St.H e2; rw [putO_H] at this; exact this
          subst hH2
          have hkx : clsOf m x.op = .load := by cases hkx : clsOf m x.op <;> simp_all [clsApart]
          have hsx : simpleOp x.op = true := cls_simple (m := m) (.inr hkx)
          obtain ⟨tx, ax, hox⟩ := op_load_H hkx
          have hH1 : H2 = σ.H := by
            rw [stepR_simple hsx] at hx
            have x3' : opH P (x.dst.getD 0) (ev σ.s) σ.H x.op = H2 := congrArg St.H hx.2.2
            rw [← x3', hox]; rfl
          subst hH1
          have sy := ry σ (by simpa [withH_self] using hya (w := v) (H := σ.H)) (by rw [putO_H]; exact fun _ _ h => h)
          have sx := hx2 (σ.putO y.dst u) (by have := hxa (w := u) (H := σ.H); simpa [withH_self] using this) (by rw [putO_H])
          refine ⟨σ, sy, _, sx, ?_⟩
          show ((σ.putO y.dst u).withH σ.H).putO x.dst v = (((σ.withH σ.H).putO x.dst v).withH σ.H).putO y.dst u
          rw [← putO_withH, hfin, putO_withH, putO_withH, putO_withH, putO_withH]
          rfl
        · exact swap_old hap1 hap2 hcx hcy hx hy hpx hpy hrx hry

end
end Go.Abs
namespace Go.Abs
open Go

section
variable {P : Program} {m : Nat} {ops : Array Oper}

theorem apart_full {x y : Oper} (hap : apartA m ops x y = true) : clsOf m x.op ≠ .full ∧ clsOf m y.op ≠ .full := by
  unfold apartA at hap
  rw [Bool.and_eq_true] at hap
  refine ⟨fun e => ?_, fun e => ?_⟩
  · rw [e] at hap; simp [clsApart] at hap
  · rw [e] at hap; cases h : clsOf m x.op <;> simp [clsApart, h] at hap

theorem Sp.swap {x y : Oper} (hap1 : x.apart ops y = true) (fx : clsOf m x.op ≠ .full) (fy : clsOf m y.op ≠ .full) {σ σ₁ σ₂ : St}
    (sw : ∀ {v u : AV} {τ τ' : St}, StepR P m x σ v τ → StepR P m y (τ.putO x.dst v) u τ' → ∃ τ₁, StepR P m y σ u τ₁ ∧ ∃ τ₂, StepR P m x (τ₁.putO y.dst u) v τ₂ ∧ τ₂.putO x.dst v = τ'.putO y.dst u) (hx : Sp P m ops x σ σ₁) (hy : Sp P m ops y σ₁ σ₂) : ∃ σ₁', Sp P m ops y σ σ₁' ∧ Sp P m ops x σ₁' σ₂ := by
  obtain ⟨a1, a2, a3⟩ := Oper.apart_spec hap1
  obtain ⟨dx, hx⟩ := hx
  obtain ⟨dy, hy⟩ := hy
  have wy : ∀ {v : AV} {H : Heap}, wantedA ops.toList ((σ.withH H).putO x.dst v) y.guard = wantedA ops.toList σ y.guard := fun {v} {H} =>
    wantedA_alike (o := y) (fun t ht => by rw [putO_withH]; exact (Alike.putO (σ := σ) (v := v) (ops := ops) (o := y) a1) t ht)
  have wx : ∀ {v : AV} {H : Heap}, wantedA ops.toList ((σ.withH H).putO y.dst v) x.guard = wantedA ops.toList σ x.guard := fun {v} {H} =>
    wantedA_alike (o := x) (fun t ht => by rw [putO_withH]; exact (Alike.putO (σ := σ) (v := v) (ops := ops) (o := x) a3) t ht)
  have comm : ∀ {H : Heap} {v u : AV}, ((σ.withH H).putO y.dst u).putO x.dst v = ((σ.withH H).putO x.dst v).putO y.dst u := fun {H v u} => putO_putO (fun d hd e => a2 d e (by rw [hd]))
  rcases hx with ⟨hwx, v, τ, sx, rfl⟩ | ⟨hwx, rfl⟩
  · obtain ⟨⟨H1, rfl⟩, hx2⟩ := stepR_heap (ops := ops) fx sx
    rcases hy with ⟨hwy, u, τ', sy, rfl⟩ | ⟨hwy, rfl⟩
    · obtain ⟨τ₁, t1, τ₂, t2, t3⟩ := sw sx sy
      obtain ⟨⟨H3, rfl⟩, _⟩ := stepR_heap (ops := ops) fy t1
      refine ⟨_, ⟨by rw [putO_n] at dy; exact dy, .inl ⟨by rw [← wy (v := v) (H := H1)]; exact hwy, u, _, t1, rfl⟩⟩, ⟨by rw [putO_n]; exact dx, .inl ⟨by rw [wx]; exact hwx, v, τ₂, t2, t3.symm⟩⟩⟩
    · refine ⟨σ.putO y.dst undefA, ⟨by rw [putO_n] at dy; exact dy, .inr ⟨by rw [← wy (v := v) (H := H1)]; exact hwy, rfl⟩⟩, ⟨by rw [putO_n]; exact dx, .inl ⟨by have := wx (v := undefA) (H := σ.H); rw [withH_self] at this; rw [this]; exact hwx, v, (σ.putO y.dst undefA).withH H1, ?_, ?_⟩⟩⟩
      · refine hx2 _ (fun t ht => ?_) putO_H
        exact ((Alike.putO (σ := σ) (v := undefA) (ops := ops) (o := x) a3) t ht).symm
      · rw [← putO_withH, comm]
  · rcases hy with ⟨hwy, u, τ', sy, rfl⟩ | ⟨hwy, rfl⟩
    · obtain ⟨⟨H1, rfl⟩, hy2⟩ := stepR_heap (ops := ops) fy sy
      have hyy := hy2 σ (Alike.putO (σ := σ) (v := undefA) (ops := ops) (o := y) a1) putO_H.symm
      refine ⟨(σ.withH H1).putO y.dst u, ⟨by rw [putO_n] at dy; exact dy, .inl ⟨by have := wy (v := undefA) (H := σ.H); rw [withH_self] at this; rw [← this]; exact hwy, u, _, hyy, rfl⟩⟩, ⟨by rw [putO_n]; exact dx, .inr ⟨by rw [wx]; exact hwx, ?_⟩⟩⟩
      rw [comm, putO_withH, putO_withH, putO_withH]
    · refine ⟨σ.putO y.dst undefA, ⟨by rw [putO_n] at dy; exact dy, .inr ⟨by have := wy (v := undefA) (H := σ.H); rw [withH_self] at this; rw [← this]; exact hwy, rfl⟩⟩, ⟨by rw [putO_n]; exact dx, .inr ⟨by have := wx (v := undefA) (H := σ.H); rw [withH_self] at this; rw [this]; exact hwx, ?_⟩⟩⟩
      have := comm (H := σ.H) (v := undefA) (u := undefA)
      rw [withH_self] at this
      exact this.symm

theorem lookB_mem {bl : List (Nat × Nat)} {t b : Nat} (h : lookB bl t = some b) : (t, b) ∈ bl := by
  unfold lookB at h
  cases hf : bl.find? (fun p => p.1 == t) with
  | none => rw [hf] at h; simp at h
  | some p =>
    rw [hf] at h
    have h1 := List.find?_some hf
    have h2 := List.mem_of_find?_eq_some hf
    simp at h h1
    obtain ⟨p1, p2⟩ := p
    simp at h h1
    subst h; subst h1; exact h2
theorem diffB_spec {bl : List (Nat × Nat)} {t t' : Nat} {σ : St} (hg : GoodB bl σ) (h : diffB bl t t' = true) : ∃ b o b' o', σ.s t = .one (.ptr b o) ∧ σ.s t' = .one (.ptr b' o') ∧ b ≠ b' := by
  unfold diffB at h
  split at h
  · rename_i b b' h1 h2
    obtain ⟨o, e1⟩ := hg _ (lookB_mem h1)
    obtain ⟨o', e2⟩ := hg _ (lookB_mem h2)
    exact ⟨b, o, b', o', e1, e2, by simpa using h⟩
  · cases h

/-- A load and a store through pointers to different blocks. -/
theorem ls_swap {bl : List (Nat × Nat)} {x y : Oper} (hap1 : x.apart ops y = true) (hls : lsApart bl x.op y.op = true) {σ : St} (hg : GoodB bl σ) {v u : AV} {τ τ' : St} (hx : StepR P m x σ v τ) (hy : StepR P m y (τ.putO x.dst v) u τ') :
    ∃ τ₁, StepR P m y σ u τ₁ ∧ ∃ τ₂, StepR P m x (τ₁.putO y.dst u) v τ₂ ∧ τ₂.putO x.dst v = τ'.putO y.dst u := by
  obtain ⟨a1, a2, a3⟩ := Oper.apart_spec hap1
  have hsx : simpleOp x.op = true := by
    unfold lsApart at hls; split at hls <;> simp_all [simpleOp]
  have hsy : simpleOp y.op = true := by
    unfold lsApart at hls; split at hls <;> simp_all [simpleOp]
  have hcx : clsOf m x.op ≠ .full := by
    unfold lsApart at hls; split at hls <;> simp_all [clsOf]
  have hcy : clsOf m y.op ≠ .full := by
    unfold lsApart at hls; split at hls <;> simp_all [clsOf]
  obtain ⟨⟨H1, rfl⟩, hx2⟩ := stepR_heap (ops := ops) hcx hx
  obtain ⟨⟨H2, rfl⟩, hy2⟩ := stepR_heap (ops := ops) hcy hy
  have hxa : ∀ {w : AV} {H : Heap}, Alike ops x σ.s ((σ.withH H).putO y.dst w).s := fun {w} {H} t ht => by
    rw [putO_withH]; exact ((Alike.putO (σ := σ) (v := w) (ops := ops) (o := x) a3) t ht).symm
  have hya : ∀ {w : AV} {H : Heap}, Alike ops y ((σ.withH H).putO x.dst w).s σ.s := fun {w} {H} t ht => by
    rw [putO_withH]; exact (Alike.putO (σ := σ) (v := w) (ops := ops) (o := y) a1) t ht
  have hfin : ∀ H, ((σ.withH H).putO y.dst u).putO x.dst v = ((σ.withH H).putO x.dst v).putO y.dst u := fun H => putO_putO (fun d hd e => a2 d e (by rw [hd]))
  rw [stepR_simple hsx] at hx
  rw [stepR_simple hsy] at hy
  obtain ⟨x1, hv, x3⟩ := hx
  obtain ⟨y1, hu, y3⟩ := hy
  have x3' : opH P (x.dst.getD 0) (ev σ.s) σ.H x.op = H1 := congrArg St.H x3
  have hH0 : ((σ.withH H1).putO x.dst v).H = H1 := by rw [putO_H]; rfl
  rw [hH0] at y1 y3 hu
  obtain ⟨c1, c2, c3⟩ := op_congr (P := P) (d := y.dst.getD 0) (H := H1) (fun z hz => (hya (w := v) (H := H1)).ev hz) hsy
  rw [c3] at y3
  rw [c1] at y1
  rw [c2] at hu
  have y3' : opH P (y.dst.getD 0) (ev σ.s) H1 y.op = H2 := congrArg St.H y3
  have key : ∃ H3, opOk P (y.dst.getD 0) (ev σ.s) σ.H y.op ∧ opV P (y.dst.getD 0) (ev σ.s) σ.H y.op = u ∧ opH P (y.dst.getD 0) (ev σ.s) σ.H y.op = H3 ∧
      opOk P (x.dst.getD 0) (ev σ.s) H3 x.op ∧ opV P (x.dst.getD 0) (ev σ.s) H3 x.op = v ∧ opH P (x.dst.getD 0) (ev σ.s) H3 x.op = H2 := by
    clear c1 c2 c3 hx2 hy2 hxa hya hfin hcx hcy hsx hsy y3 x3
    unfold lsApart at hls
    split at hls
    · rename_i ty t ty' t' z ex ey
      obtain ⟨b, o, b', o', e1, e2, hne⟩ := diffB_spec hg hls
      rw [ex] at x1 hv x3' ⊢
      rw [ey] at y1 hu y3' ⊢
      simp only [opH] at x3'
      subst x3'
      refine ⟨H2, y1, hu, y3', ?_⟩
      have hc : cellsAt H2 (ev σ.s (.tmp t)) = cellsAt σ.H (ev σ.s (.tmp t)) := by
        rw [← y3']
        simp only [opH, ev, e1, e2, cellsAt, upd]
        rw [if_neg hne]
      simp only [opOk, opV, opH, hc] at x1 hv ⊢
      exact ⟨x1, hv, trivial⟩
    · rename_i ty' t' z ty t ex ey
      obtain ⟨b, o, b', o', e1, e2, hne⟩ := diffB_spec hg hls
      rw [ex] at x1 hv x3' ⊢
      rw [ey] at y1 hu y3' ⊢
      simp only [opH] at y3'
      subst y3'
      have hc : cellsAt H1 (ev σ.s (.tmp t)) = cellsAt σ.H (ev σ.s (.tmp t)) := by
        rw [← x3']
        simp only [opH, ev, e1, e2, cellsAt, upd]
        rw [if_neg hne]
      simp only [opOk, opV, hc] at y1 hu ⊢
      exact ⟨σ.H, y1, hu, rfl, x1, hv, x3'⟩
    · cases hls
  obtain ⟨H3, k1, k2, k3, k4, k5, k6⟩ := key
  refine ⟨σ.withH H3, ?_, (σ.withH H2).putO y.dst u, ?_, ?_⟩
  · rw [stepR_simple hsy, k2, k3]; exact ⟨k1, rfl, rfl⟩
  · rw [stepR_simple hsx]
    have hH4 : ((σ.withH H3).putO y.dst u).H = H3 := by rw [putO_H]; rfl
    obtain ⟨d1, d2, d3⟩ := op_congr (P := P) (d := x.dst.getD 0) (H := H3) (fun z hz => (hxa (w := u) (H := H3)).ev hz) hsx
    rw [hH4, ← d1, ← d2, ← d3, k5, k6]
    exact ⟨k4, rfl, by rw [← putO_withH]; rfl⟩
  · rw [show ((σ.withH H1).putO x.dst v).withH H2 = (σ.withH H2).putO x.dst v by rw [← putO_withH]; rfl, hfin]

/-- Two operations that are apart change places. -/
theorem Sp.swapB {bl : List (Nat × Nat)} {x y : Oper} (hap : apartB m bl ops x y = true) {σ σ₁ σ₂ : St} (hg : GoodB bl σ) (hx : Sp P m ops x σ σ₁) (hy : Sp P m ops y σ₁ σ₂) : ∃ σ₁', Sp P m ops y σ σ₁' ∧ Sp P m ops x σ₁' σ₂ := by
  unfold apartB at hap
  rw [Bool.and_eq_true, Bool.or_eq_true] at hap
  obtain ⟨h1, h2 | h2⟩ := hap
  · have hA : apartA m ops x y = true := by unfold apartA; rw [h1, h2]; rfl
    obtain ⟨fx, fy⟩ := apart_full hA
    exact Sp.swap h1 fx fy (fun sx sy => swap_step hA sx sy) hx hy
  · have fx : clsOf m x.op ≠ .full := by
      unfold lsApart at h2; split at h2 <;> simp_all [clsOf]
    have fy : clsOf m y.op ≠ .full := by
      unfold lsApart at h2; split at h2 <;> simp_all [clsOf]
    exact Sp.swap h1 fx fy (fun sx sy => ls_swap h1 h2 hg sx sy) hx hy

theorem putO_ne {σ : St} {d : Option Nat} {v : AV} {t : Nat} (h : d ≠ some t) : (σ.putO d v).s t = σ.s t := by
  cases d with
  | none => rfl
  | some d =>
    have hn : d ≠ t := fun e => h (by rw [e])
    simp [St.putO, St.put, Ne.symm hn]
theorem GoodB.step (ops : Array Oper) {bl : List (Nat × Nat)} {o : Oper} {σ : St} (hg : GoodB bl σ) (hk : keepB m bl o = true) {v : AV} {τ : St} (h : StepR P m o σ v τ) : GoodB bl (τ.putO o.dst v) := by
  intro p hp
  unfold keepB at hk
  rw [Bool.or_eq_true] at hk
  rcases hk with hk | hk
  · rw [List.isEmpty_iff] at hk; subst hk; simp at hp
  · rw [Bool.and_eq_true] at hk
    obtain ⟨⟨H1, rfl⟩, _⟩ := stepR_heap (ops := ops) (by simpa using hk.1) h
    obtain ⟨off, e⟩ := hg p hp
    have := List.all_eq_true.1 hk.2 p hp
    exact ⟨off, by rw [putO_ne (by simpa using this)]; exact e⟩
theorem GoodB.undef {bl : List (Nat × Nat)} {o : Oper} {σ : St} (hg : GoodB bl σ) (hk : keepB m bl o = true) : GoodB bl (σ.putO o.dst undefA) := by
  intro p hp
  unfold keepB at hk
  rw [Bool.or_eq_true] at hk
  rcases hk with hk | hk
  · rw [List.isEmpty_iff] at hk; subst hk; simp at hp
  · rw [Bool.and_eq_true] at hk
    obtain ⟨off, e⟩ := hg p hp
    have := List.all_eq_true.1 hk.2 p hp
    exact ⟨off, by rw [putO_ne (by simpa using this)]; exact e⟩
theorem GoodB.sp {bl : List (Nat × Nat)} {o : Oper} {σ σ' : St} (hg : GoodB bl σ) (hk : keepB m bl o = true) (h : Sp P m ops o σ σ') : GoodB bl σ' := by
  obtain ⟨_, ⟨_, v, τ, h1, rfl⟩ | ⟨_, rfl⟩⟩ := h
  · exact hg.step ops hk h1
  · exact hg.undef hk

/-- An operation that is apart from all ahead of it may come first. -/
theorem runOps_front {bl : List (Nat × Nat)} {Q : St → Prop} {y : Oper} : ∀ (l₁ l₂ : List Oper) (σ : St), GoodB bl σ → (∀ x ∈ l₁, keepB m bl x = true) → (∀ x ∈ l₁, apartB m bl ops x y = true) → runOps P m ops.toList Q (l₁ ++ y :: l₂) σ → runOps P m ops.toList Q (y :: (l₁ ++ l₂)) σ := by
  intro l₁
  induction l₁ with
  | nil => intro l₂ σ _ _ _ h; exact h
  | cons x l₁ ih =>
    intro l₂ σ hg hk hap h
    rw [List.cons_append, runOps_cons] at h
    obtain ⟨σ₁, s1, h⟩ := h
    have := ih l₂ σ₁ (hg.sp (hk x (by simp)) s1) (fun z hz => hk z (by simp [hz])) (fun z hz => hap z (by simp [hz])) h
    rw [runOps_cons] at this
    obtain ⟨σ₂, s2, h2⟩ := this
    obtain ⟨σ₁', t1, t2⟩ := s1.swapB (hap x (by simp)) hg s2
    rw [runOps_cons]
    refine ⟨σ₁', t1, ?_⟩
    rw [List.cons_append, runOps_cons]
    exact ⟨σ₂, t2, h2⟩

/-- One operation of a region, whatever stands behind it. -/
theorem wpOp_sound {Q : Exit → Act → World → Prop} {K : Act → World → Prop} {i : Nat} {o : Oper} (hi : ops[i]? = some o) {Qa : St → Prop} {l : List Oper} {σ : St} {ρ : Nat → Option Nat} {ok : Nat → Prop} {a : Act} {w : World}
    {bl : List (Nat × Nat)} (hgd : GoodB bl σ) (hkp : keepB m bl o = true) (h : SR ρ ok σ a w) (hr : runOps P m ops.toList Qa (o :: l) σ)
    (hK : ∀ σ' ρ' ok' a' w', GoodB bl σ' → runOps P m ops.toList Qa l σ' → SR ρ' ok' σ' a' w' → Goes ρ ok w ρ' ok' w' → K a' w') : wpOp P ops Q i K a w := by
  obtain ⟨hd, hr⟩ := hr
  unfold wpOp
  simp only [hi]
  unfold BR at hr
  split at hr
  · rename_i hw
    rw [if_pos (wanted_spec h hw)]
    have hr' : stepA P m o σ fun v σ' => GoodB bl (σ'.putO o.dst v) ∧ runOps P m ops.toList Qa l (σ'.putO o.dst v) := by
      obtain ⟨v, τ, h1, h2⟩ := stepA_iff.1 hr
      exact stepA_iff.2 ⟨v, τ, h1, hgd.step ops hkp h1, h2⟩
    refine .inl (Oper.wp_mono ?_ (step_sound h hd hr'))
    rintro a' w' ⟨x, v, τ, ρ', ok', hk, rfl, hx, hsr, hg, hn⟩
    exact hK _ ρ' ok' _ w' hk.1 hk.2 (hsr.putA (by rw [hn]; exact hd) hx) hg
  · rename_i hw
    rw [if_neg (by rw [wanted_spec h hw]; simp)]
    exact hK _ ρ ok _ w (hgd.undef hkp) hr (h.undefA hd) (Goes.refl _ _ _)
  · exact hr.elim

/-- What has come up is closed under what must come first. -/
def Closed (ops : Array Oper) (listed : Array Bool) : Prop :=
  ∀ j o, ops[j]? = some o → listed.getD j false = true → ∀ e ∈ o.after, Region.binds .any e = true → listed.getD e.on false = true

theorem reach_listed {listed : Array Bool} (hc : Closed ops listed) : ∀ (f k i : Nat) (o : Oper), ops[i]? = some o → (∀ e ∈ o.after, Region.binds .any e = true → listed.getD e.on false = true) →
    reach ops f k i = true → listed.getD k false = true ∨ ops.size ≤ k := by
  intro f
  induction f with
  | zero => intro k i o _ _ h; simp [reach] at h
  | succ f ih =>
    intro k i o ho hall h
    simp only [reach, ho, List.any_eq_true, Bool.and_eq_true, Bool.or_eq_true, beq_iff_eq] at h
    obtain ⟨e, he, hb, h1 | h1⟩ := h
    · subst h1; exact .inl (hall e (by simpa using he) hb)
    · have hl := hall e (by simpa using he) hb
      cases hoe : ops[e.on]? with
      | none => cases f <;> simp [reach, hoe] at h1
      | some o' => exact ih k e.on o' hoe (fun e' he' hb' => hc e.on o' hoe hl e' he' hb') h1

def opsAt (ops : Array Oper) (l : List Nat) : List Oper := l.filterMap (ops[·]?)

theorem any_sound {bl : List (Nat × Nat)} {tk : List Nat} (hord : ordOkT tk m bl ops = true) {Qa : St → Prop} {Q : Exit → Act → World → Prop} :
    ∀ (fuel : Nat) (l : List Nat) (listed : Array Bool) (σ : St) (ρ : Nat → Option Nat) (ok : Nat → Prop) (a : Act) (w : World), l.Pairwise (· < ·) → (∀ i, i ∈ l ↔ i < ops.size ∧ listed.getD i true = false) → (∀ i ∈ l, tk.contains i = false) → Closed ops listed → listed.size = ops.size →
      l.length ≤ fuel → SR ρ ok σ a w → GoodB bl σ → runOps P m ops.toList Qa (opsAt ops l) σ →
      (∀ σ' ρ' ok' a' w', Qa σ' → SR ρ' ok' σ' a' w' → Goes ρ ok w ρ' ok' w' → Q .normal a' w') → wpAny P .any ops Q fuel listed a w := by
  intro fuel
  induction fuel with
  | zero =>
    intro l listed σ ρ ok a w hp hl htk hc hsz hlen h hgd hr hq
    have : l = [] := List.length_eq_zero_iff.1 (by omega)
    subst this
    refine ⟨?_, hq σ ρ ok a w hr h (Goes.refl _ _ _)⟩
    cases hrd : Region.ready .any ops listed with
    | nil => rfl
    | cons i t =>
      have : i ∈ Region.ready .any ops listed := by rw [hrd]; simp
      obtain ⟨h1, o, ho, _⟩ := mem_ready.1 this
      have hlt : i < ops.size := (Array.getElem?_eq_some_iff.1 ho).1
      have := (hl i).2 ⟨hlt, h1⟩
      simp at this
  | succ fuel ih =>
    intro l listed σ ρ ok a w hp hl htk hc hsz hlen h hgd hr hq
    refine ⟨fun hrd => ?_, fun i hi => ?_⟩
    · cases l with
      | nil => exact hq σ ρ ok a w hr h (Goes.refl _ _ _)
      | cons i l =>
        exfalso
        obtain ⟨hi, hun⟩ := (hl i).1 (by simp)
        have hnot : i ∉ Region.ready .any ops listed := by rw [hrd]; simp
        rw [mem_ready] at hnot
        have ho : ops[i]? = some ops[i] := by simp [hi]
        refine hnot ⟨hun, ops[i], ho, fun e he hb => ?_⟩
        unfold ordOkT at hord
        rw [Bool.and_eq_true] at hord
        replace hord := hord.2
        rw [List.all_eq_true] at hord
        have h1 := hord i (by simpa using hi)
        rw [htk i (by simp), Bool.false_or, Bool.and_eq_true] at h1
        have h2 := h1.1
        simp only [backOnly, ho] at h2
        rw [List.all_eq_true] at h2
        have hlt : e.on < i := by simpa [hb] using h2 e (by simpa using he)
        cases hle : listed.getD e.on true with
        | true =>
          have : e.on < listed.size := by omega
          simpa [this] using hle
        | false =>
          have hmem := (hl e.on).2 ⟨by omega, hle⟩
          rcases List.mem_cons.1 hmem with h3 | h3
          · omega
          · have := List.rel_of_pairwise_cons hp h3; omega
    · obtain ⟨hun, o, ho, hall⟩ := mem_ready.1 hi
      have hlt : i < ops.size := (Array.getElem?_eq_some_iff.1 ho).1
      have hmem := (hl i).2 ⟨hlt, hun⟩
      obtain ⟨l₁, l₂, rfl⟩ := List.append_of_mem hmem
      have hkall : ∀ (j : Nat) (x : Oper), ops[j]? = some x → keepB m bl x = true := by
        intro j x hx
        unfold ordOkT at hord
        rw [Bool.and_eq_true] at hord
        exact List.all_eq_true.1 hord.1 x (by simpa using Array.mem_of_getElem? hx)
      have hkl : ∀ x ∈ opsAt ops l₁, keepB m bl x = true := by
        intro x hx
        unfold opsAt at hx
        obtain ⟨k, _, hkx⟩ := List.mem_filterMap.1 hx
        exact hkall k x hkx
      have hap : ∀ x ∈ opsAt ops l₁, apartB m bl ops x o = true := by
        intro x hx
        unfold opsAt at hx
        obtain ⟨k, hk, hkx⟩ := List.mem_filterMap.1 hx
        have hki : k < i := by
          have := List.pairwise_append.1 hp
          exact this.2.2 k hk i (by simp)
        unfold ordOkT at hord
        rw [Bool.and_eq_true] at hord
        replace hord := hord.2
        rw [List.all_eq_true] at hord
        have h1 := hord i (by simpa using hlt)
        rw [htk i (by simp), Bool.false_or, Bool.and_eq_true, List.all_eq_true] at h1
        have h2 := h1.2 k (by simpa using hki)
        rw [htk k (by simp [hk]), Bool.false_or] at h2
        simp only [hkx, ho, Bool.or_eq_true] at h2
        rcases h2 with h2 | h2
        · exact h2
        · exfalso
          have hku := ((hl k).1 (by simp [hk])).2
          rcases reach_listed hc (i + 1) k i o ho hall h2 with h3 | h3
          · have : k < listed.size := by omega
            simp [this] at hku h3
            rw [hku] at h3; cases h3
          · omega
      have hopl : opsAt ops (l₁ ++ i :: l₂) = opsAt ops l₁ ++ o :: opsAt ops l₂ := by
        simp [opsAt, ho]
      rw [hopl] at hr
      have hfr := runOps_front (opsAt ops l₁) (opsAt ops l₂) σ hgd hkl hap hr
      refine wpOp_sound ho hgd (hkall i o ho) h hfr fun σ' ρ' ok' a' w' hgd' hr' h' hg' => ?_
      have hopl2 : opsAt ops l₁ ++ opsAt ops l₂ = opsAt ops (l₁ ++ l₂) := by simp [opsAt]
      rw [hopl2] at hr'
      have hnd : i ∉ l₁ ∧ i ∉ l₂ := by
        have hp' := List.pairwise_append.1 hp
        refine ⟨fun hm => ?_, fun hm => ?_⟩
        · have := hp'.2.2 i hm i (by simp); omega
        · have := List.rel_of_pairwise_cons hp'.2.1 hm; omega
      refine ih (l₁ ++ l₂) (listed.setIfInBounds i true) σ' ρ' ok' a' w' ?_ ?_ (fun k hk => htk k (by rcases List.mem_append.1 hk with h | h <;> simp [h])) ?_ (by simpa using hsz) ?_ h' hgd' hr' (fun σ'' ρ'' ok'' a'' w'' q s g => hq σ'' ρ'' ok'' a'' w'' q s (hg'.trans g))
      · have hp' := List.pairwise_append.1 hp
        exact List.pairwise_append.2 ⟨hp'.1, (List.pairwise_cons.1 hp'.2.1).2, fun x hx y hy => hp'.2.2 x hx y (by simp [hy])⟩
      · intro k
        have hlk := hl k
        by_cases hki : k = i
        · subst hki
          simp only [List.mem_append]
          constructor
          · rintro (h1 | h1)
            · exact absurd h1 hnd.1
            · exact absurd h1 hnd.2
          · rintro ⟨_, h1⟩
            simp [hsz, hlt] at h1
        · rw [getD_set_ne true (Ne.symm hki), ← hlk]
          simp [hki]
      · intro j oj hj hlj e he hb
        by_cases hji : j = i
        · subst hji
          rw [ho] at hj; cases hj
          exact getD_set_true (hall e he hb)
        · rw [getD_set_ne false (Ne.symm hji)] at hlj
          exact getD_set_true (hc j oj hj hlj e he hb)
      · simp at hlen ⊢; omega

end
end Go.Abs
namespace Go.Abs
open Go

def PostC (ρ : Nat → Option Nat) (ok : Nat → Prop) (w : World) (Q : Exit → St → Prop) : Exit → Act → World → Prop :=
  fun e a' w' => ∃ σ' ρ' ok', Q e σ' ∧ SR ρ' ok' σ' a' w' ∧ Goes ρ ok w ρ' ok' w'

theorem PostC.trans {ρ ρ₁ : Nat → Option Nat} {ok ok₁ : Nat → Prop} {w w₁ : World} {Q : Exit → St → Prop} (hg : Goes ρ ok w ρ₁ ok₁ w₁) : ∀ e a w', PostC ρ₁ ok₁ w₁ Q e a w' → PostC ρ ok w Q e a w' :=
  fun _ _ _ ⟨σ', ρ', ok', q, s, g⟩ => ⟨σ', ρ', ok', q, s, hg.trans g⟩

section
variable {P : Program}

def onlyQ (K : St → Prop) : Exit → St → Prop
  | .normal, σ => K σ
  | _, _ => False
theorem SR.drawn {σ : St} {ρ : Nat → Option Nat} {ok : Nat → Prop} {a : Act} {w : World} (h : SR ρ ok σ a w) : SR ρ ok σ a { w with drawn := w.drawn + 1 } ∧ Goes ρ ok w ρ ok { w with drawn := w.drawn + 1 } := by
  have hk : Keeps ok w { w with drawn := w.drawn + 1 } := fun _ _ => rfl
  exact ⟨⟨⟨fun b cs hb => let ⟨c, arr, el, h1, h2, h3, h4⟩ := h.heap b cs hb; ⟨c, arr, el, h1, h2, h3, fun j hj hj' => (h4 j hj hj').mono hk (fun _ h => h) (fun _ _ _ h => h) (fun _ _ h => h)⟩, h.dom, h.inj, h.okR⟩,
        h.size, fun t => h.lift hk (fun _ h => h) (fun _ _ _ h => h) (fun _ _ h => h) t, h.defers, h.small⟩,
      ⟨Nat.le_refl _, fun _ _ _ => rfl, fun _ _ _ h => h, fun b _ h => .inl ⟨b, h⟩, fun _ h => h, fun _ h => .inl h, fun _ _ => .inl rfl, ⟨rfl, rfl⟩⟩⟩

/-- A region of which the walk tells the orders itself. -/
theorem region_any (hm : P.follows .mixedOrders = true) {id : Nat} {ops : Array Oper} {q : St → Prop} {σ : St} {ρ : Nat → Option Nat} {ok : Nat → Prop} {a : Act} {w : World} (h : SR ρ ok σ a w) (hr : AnyS P ops q ops.size (Array.replicate ops.size false) σ) :
    (Code.region id ops true).wp P (PostC ρ ok w (onlyQ q)) a w := by
  have hd := h.drawn
  exact wp_region_any hm (hr ρ ok a _ hd.1 _ (fun c a w ⟨_, _, _, hq, _⟩ => hq) (fun σ' ρ' ok' a' w' q1 s1 g1 => ⟨σ', ρ', ok', q1, s1, hd.2.trans g1⟩))

theorem AnyS.weaken {ops : Array Oper} {q : St → Prop} {fuel : Nat} {listed : Array Bool} {σ σ' : St} (hg : Abs.GStep σ σ') (h : AnyS P ops q fuel listed σ') : AnyS P ops q fuel listed σ := by
  intro ρ ok a w hs Q' hp hn
  obtain ⟨ρ', ok', hs', g⟩ := hg ρ ok a w hs
  exact h ρ' ok' a w hs' Q' hp (fun σ'' ρ'' ok'' a'' w'' q1 s1 g1 => hn σ'' ρ'' ok'' a'' w'' q1 s1 (g.trans g1))
theorem AnyS.mono {ops : Array Oper} {q q' : St → Prop} {fuel : Nat} {listed : Array Bool} {σ : St} (hq : ∀ σ, q σ → q' σ) (h : AnyS P ops q fuel listed σ) : AnyS P ops q' fuel listed σ :=
  fun ρ ok a w hs Q' hp hn => h ρ ok a w hs Q' hp fun σ'' ρ'' ok'' a'' w'' q1 s1 g1 => hn σ'' ρ'' ok'' a'' w'' (hq _ q1) s1 g1

theorem region_sound (hm : P.follows .mixedOrders = true) {id : Nat} {ops : Array Oper} {draw : Bool} {Q : Exit → St → Prop} {σ : St} {ρ : Nat → Option Nat} {ok : Nat → Prop} {a : Act} {w : World} (h : SR ρ ok σ a w)
    (hr : wpA P (.region id ops draw) Q σ) : (Code.region id ops draw).wp P (PostC ρ ok w Q) a w := by
  cases draw with
  | false =>
    simp only [wpA, Bool.false_eq_true, if_false] at hr
    exact wp_region_list (ops_sound ops.toList σ ρ ok a w h hr fun σ' ρ' ok' a' w' q s g => ⟨σ', ρ', ok', q, s, g⟩)
  | true =>
    simp only [wpA, if_true] at hr
    rcases hr with hr | hr
    case inr =>
      refine Code.wp_mono ?_ (region_any hm h hr)
      rintro e a' w' ⟨σ', ρ', ok', q, s, g⟩
      cases e with
      | normal => exact ⟨σ', ρ', ok', q, s, g⟩
      | _ => exact q.elim
    obtain ⟨m, bl, σ1, hgs, hord, hgd, hr⟩ := hr
    have hd : SR ρ ok σ a { w with drawn := w.drawn + 1 } := by
      have hk : Keeps ok w { w with drawn := w.drawn + 1 } := fun _ _ => rfl
      exact ⟨⟨fun b cs hb => let ⟨c, arr, el, h1, h2, h3, h4⟩ := h.heap b cs hb; ⟨c, arr, el, h1, h2, h3, fun j hj hj' => (h4 j hj hj').mono hk (fun _ h => h) (fun _ _ _ h => h) (fun _ _ h => h)⟩, h.dom, h.inj, h.okR⟩,
        h.size, fun t => h.lift hk (fun _ h => h) (fun _ _ _ h => h) (fun _ _ h => h) t, h.defers, h.small⟩
    have hg : Goes ρ ok w ρ ok { w with drawn := w.drawn + 1 } := ⟨Nat.le_refl _, fun _ _ _ => rfl, fun _ _ _ h => h, fun b _ h => .inl ⟨b, h⟩, fun _ h => h, fun _ h => .inl h, fun _ _ => .inl rfl, ⟨rfl, rfl⟩⟩
    obtain ⟨ρ1, ok1, hd, hg1⟩ := hgs ρ ok a _ hd
    replace hg := hg.trans hg1
    have hops : opsAt ops (List.range ops.size) = ops.toList := by
      unfold opsAt
      apply List.ext_getElem?
      intro i
      have key : ∀ (n : Nat), n ≤ ops.size → (List.range n).filterMap (ops[·]?) = ops.toList.take n := by
        intro n
        induction n with
        | zero => simp
        | succ n ih =>
          intro hn
          rw [List.range_succ, List.filterMap_append, ih (by omega)]
          have : n < ops.size := by omega
          simp [this, List.take_add_one]
      rw [key _ (Nat.le_refl _), List.take_of_length_le (by simp)]
    refine wp_region_any hm (any_sound (ordOkT_nil hord) ops.size (List.range ops.size) _ σ1 ρ1 ok1 a _ List.pairwise_lt_range (fun i => ?_) (fun _ _ => rfl) (fun j o _ hl => ?_) (by simp) (by simp) hd hgd (by rw [hops]; exact hr) fun σ' ρ' ok' a' w' q s g => ⟨σ', ρ', ok', q, s, hg.trans g⟩)
    · simp only [List.mem_range]
      constructor
      · intro hi; exact ⟨hi, by simp [hi]⟩
      · exact fun hi => hi.1
    · exfalso
      by_cases hj : j < ops.size
      · simp [hj] at hl
      · simp [hj] at hl

theorem code_sound (hm : P.follows .mixedOrders = true) : ∀ (c : Code) (Q : Exit → St → Prop) (σ : St) (ρ : Nat → Option Nat) (ok : Nat → Prop) (a : Act) (w : World), SR ρ ok σ a w → wpA P c Q σ → c.wp P (PostC ρ ok w Q) a w := by
  intro c
  induction c with
  | skip => intro Q σ ρ ok a w h hr; exact wp_skip ⟨σ, ρ, ok, hr, h, Goes.refl _ _ _⟩
  | region id ops draw => intro Q σ ρ ok a w h hr; exact region_sound hm h hr
  | seq x y ihx ihy =>
    intro Q σ ρ ok a w h hr
    refine wp_seq (Code.wp_mono ?_ (ihx _ σ ρ ok a w h hr))
    rintro e a' w' ⟨σ', ρ', ok', q, s, g⟩
    cases e with
    | normal => exact Code.wp_mono (PostC.trans g) (ihy Q σ' ρ' ok' a' w' s q)
    | _ => exact ⟨σ', ρ', ok', q, s, g⟩
  | cond c x y ihx ihy =>
    intro Q σ ρ ok a w h hr
    simp only [wpA, BR] at hr
    split at hr
    · rename_i hb
      exact wp_cond_true ((RA_ev h c).boolOf hb) (ihx Q σ ρ ok a w h hr)
    · rename_i hb
      exact wp_cond_false ((RA_ev h c).boolOf hb) (ihy Q σ ρ ok a w h hr)
    · exact hr.elim
  | block id c ih =>
    intro Q σ ρ ok a w h hr
    refine wp_block (Code.wp_mono ?_ (ih _ σ ρ ok a w h hr))
    rintro e a' w' ⟨σ', ρ', ok', q, s, g⟩
    cases e with
    | exit id' =>
      simp only [blockQ] at q
      simp only [Exit.inBlock]
      split
      · rename_i he; rw [if_pos he] at q; exact ⟨σ', ρ', ok', q, s, g⟩
      · rename_i he; rw [if_neg he] at q; exact ⟨σ', ρ', ok', q, s, g⟩
    | _ => exact ⟨σ', ρ', ok', q, s, g⟩
  | loop c ih =>
    intro Q σ ρ ok a w h hr b kk cs
    obtain ⟨k, hr⟩ := hr
    have key : ∀ (k : Nat) (σ : St) (ρ : Nat → Option Nat) (ok : Nat → Prop) (a : Act) (w : World), SR ρ ok σ a w → LoopN (wpA P c) Q k σ →
        ∃ e a' w', PostC ρ ok w Q e a' w' ∧ Arrives P (lone (b.at a (.code c :: .inLoop c :: kk)) cs w) b kk cs e a' w' := by
      intro k
      induction k with
      | zero => intro σ ρ ok a w _ hr; exact hr.elim
      | succ k ihk =>
        rintro σ ρ ok a w h ⟨σ₀, hG, hr⟩
        obtain ⟨ρ₀, ok₀, h₀, g₀⟩ := hG ρ ok a w h
        obtain ⟨e, a₁, w₁, ⟨σ', ρ', ok', q, s, g⟩, harr⟩ := ih _ σ₀ ρ₀ ok₀ a w h₀ hr b (.inLoop c :: kk) cs
        have gg := g₀.trans g
        cases e with
        | normal =>
          obtain ⟨e₂, a₂, w₂, hq₂, harr₂⟩ := ihk σ' ρ' ok' a₁ w₁ s q
          exact ⟨e₂, a₂, w₂, PostC.trans gg _ _ _ hq₂, .of_steps (Steps.trans harr (.one step_inLoop)) harr₂⟩
        | _ => exact ⟨_, a₁, w₁, ⟨σ', ρ', ok', q, s, gg⟩, .pass (x := .inLoop c) rfl (fun _ _ => .inl (by simp)) harr⟩
    obtain ⟨e, a', w', hq, harr⟩ := key k σ ρ ok a w h hr
    exact ⟨e, a', w', hq, .of_steps (.one step_loop) harr⟩
  | exit id => intro Q σ ρ ok a w h hr; exact wp_exit ⟨σ, ρ, ok, hr, h, Goes.refl _ _ _⟩
  | ret => intro Q σ ρ ok a w h hr; exact wp_ret ⟨σ, ρ, ok, hr, h, Goes.refl _ _ _⟩
  | rangeFunc => intro Q σ ρ ok a w h hr; exact hr.elim
  | scope => intro Q σ ρ ok a w h hr; exact hr.elim
  | label => intro Q σ ρ ok a w h hr; exact hr.elim
  | goto => intro Q σ ρ ok a w h hr; exact hr.elim
  | refuse => intro Q σ ρ ok a w h hr; exact hr.elim

/-! ### What a call answers -/
inductive FzC (H : Heap) : C → T → Prop where
  | t {x : T} : FzC H (.t x) x
  | junk {c : C} : FzC H c .junk
  | weak {nl : Option Bool} {xs : List (List T)} : FzC H (.t (.seq nl xs)) (.seq none xs)
  | vec {b sz off len : Nat} {cs : List C} {xs : List (List T)} {nl : Option Bool} : nl ≠ some true → H b = some cs → xs.length = len → (∀ x ∈ xs, x.length = sz) → off + len * sz ≤ cs.length →
      (∀ i (hi : i < xs.length) j (hj : j < xs[i].length) (h : off + (i * sz + j) < cs.length), FzC H cs[off + (i * sz + j)] (xs[i][j])) → FzC H (.vec b sz off len) (.seq nl xs)

inductive FzA (H : Heap) : AV → TV → Prop where
  | one {c : C} {x : T} : FzC H c x → FzA H (.one c) (.one x)
  | ip {cs : List T} : FzA H (.iptr cs) (.ip cs)
  | agg {cs : List C} {xs : List T} : xs.length = cs.length → (∀ j (h : j < cs.length) (h' : j < xs.length), FzC H cs[j] xs[j]) → FzA H (.agg cs) (.agg xs)
  | tup {vs : List AV} {xs : List TV} : xs.length = vs.length → (∀ j (h : j < vs.length) (h' : j < xs.length), FzA H vs[j] xs[j]) → FzA H (.tup vs) (.tup xs)

def okAll (ok : Nat → Prop) (ρ : Nat → Option Nat) : Nat → Prop := fun n => ok n ∨ ∃ b, ρ b = some n

theorem FzC.sound {ρ : Nat → Option Nat} {ok : Nat → Prop} {H : Heap} {w : World} (hH : HR ρ ok H w) {c : C} {x : T} (hf : FzC H c x) : ∀ {v : Value}, RC w ok ρ c v → RT w (okAll ok ρ) x v := by
  induction hf with
  | t => intro v h; cases h with | t h => exact h.mono (fun _ _ => rfl) (fun _ h => .inl h)
  | junk => intro v h; exact .junk h.oneCell
  | weak =>
    intro v h
    cases h with
    | t h =>
      have h := h.mono (w' := w) (ok' := okAll ok ρ) (fun _ _ => rfl) (fun _ h => .inl h)
      cases h with | seq g1 g2 g0 g3 g4 g5 g6 g7 g8 => exact .seq g1 g2 g0 (fun e => by cases e) (fun e => by cases e) g5 g6 g7 g8
  | @vec b sz off len cs xs nl hnl hb hlen hsz hin _ ih =>
    intro v h
    cases h with
    | vec h1 h2 h3 h4 =>
      rename_i cap c n
      obtain ⟨c', arr, el, e1, e2, e3, e4⟩ := hH.heap b cs hb
      rw [h1] at e1; cases e1
      subst hlen
      have hbound : ∀ i (hi : i < xs.length) j, j < xs[i].length → off + (i * sz + j) < cs.length := fun i hi j hj => by
        have h5 := hsz _ (List.getElem_mem hi)
        have : (i + 1) * sz ≤ xs.length * sz := Nat.mul_le_mul_right _ hi
        rw [Nat.succ_mul] at this; omega
      refine .seq (sz := sz) (blk := c) (off := off) (u := fun i j => arr.getD (off + (i * sz + j)) undef) rfl h2 (fun e => by cases e) (fun e => absurd e hnl) (fun _ => by simp) hsz (fun _ => ⟨rfl, .inr ⟨b, h1⟩⟩) (fun i hi j hj => ?_) (fun i hi j hj => ?_)
      · have hb' := hbound i hi j hj
        have : off + (i * sz + j) < arr.size := by omega
        simp [World.cell?, e2, this]
      · have hb' := hbound i hi j hj
        have hlt : off + (i * sz + j) < arr.size := by omega
        have := ih i hi j hj hb' (e4 _ hb' hlt)
        simpa [hlt] using this

theorem FzA.sound {ρ : Nat → Option Nat} {ok : Nat → Prop} {H : Heap} {w : World} (hH : HR ρ ok H w) {x : AV} {t : TV} (hf : FzA H x t) : ∀ {v : Value}, RA w ok ρ x v → RA w (okAll ok ρ) noρ (emb t) v := by
  induction hf with
  | one hf => intro v h; cases h with | one h => exact .one (.t (hf.sound hH h))
  | ip => intro v h; cases h with | iptr h1 h2 h3 => exact .iptr (.inl h1) h2 fun j hj => (h3 j hj).mono (fun _ _ => rfl) (fun _ h => .inl h)
  | agg h1 h2 =>
    intro v h
    cases h with
    | agg g1 g2 =>
      refine .agg (by simp; omega) fun j hj hj' => ?_
      simp only [List.length_map] at hj
      simp only [List.getElem_map]
      exact .t ((h2 j (by omega) hj).sound hH (g2 j (by omega) hj'))
  | tup h1 h2 ih =>
    intro v h
    cases h with
    | tup g1 g2 =>
      rename_i vs xs us
      refine .tup (by rw [emb_size_aux]; omega) fun j hj hj' => ?_
      have hj2 := hj
      rw [emb_size_aux] at hj2
      rw [embs_get xs j hj hj2]
      exact ih j (by omega) hj2 (g2 j (by omega) hj')

def resOk (P : Program) (σ : St) : ResultVar → Prop
  | .tmp _ => True
  | .cell a t => tok P t = true ∧ (cellsAt σ.H (σ.s a)).isSome = true ∧ (if tagg P t then tsize P t else 1) ≤ ((cellsAt σ.H (σ.s a)).getD []).length
def resA (P : Program) (σ : St) : ResultVar → AV
  | .tmp t => σ.s t
  | .cell a t => if tagg P t then .agg (((cellsAt σ.H (σ.s a)).getD []).take (tsize P t)) else .one (((cellsAt σ.H (σ.s a)).getD []).headD default)
def retA (P : Program) (rs : List ResultVar) (σ : St) : AV :=
  match rs with
  | [r] => resA P σ r
  | rs => .tup (rs.map (resA P σ))

theorem resA_sound {ρ : Nat → Option Nat} {ok : Nat → Prop} {σ : St} {a : Act} {w : World} (h : SR ρ ok σ a w) {r : ResultVar} (hr : resOk P σ r) :
    ∀ (g : ResultVar → Sem Value), (∀ t, g (.tmp t) = pure (a.tmps.getD t undef)) → (∀ x t, g (.cell x t) = (do loadVar t (← asAddr (a.tmps.getD x undef)))) →
    ∃ v, (g r).run P w = .ok v w ∧ RA w ok ρ (resA P σ r) v := by
  intro g hg1 hg2
  cases r with
  | tmp t => exact ⟨_, by rw [hg1]; rfl, h.slots t⟩
  | cell x t =>
    obtain ⟨h1, h2, h3⟩ := hr
    obtain ⟨cs, hcs⟩ := Option.isSome_iff_exists.1 h2
    simp only [resA]
    rw [hcs] at h3 ⊢
    simp only [Option.getD_some] at h3 ⊢
    obtain ⟨c, off, hv, u, hu, hrr⟩ := cellsAt_spec h (h.slots x) hcs
    refine ⟨if tagg P t then .agg ((List.range (tsize P t)).map u).toArray else u 0, ?_, ?_⟩
    · rw [hg2, Sem.run_bind, hv]
      simp only [asAddr, Sem.run_pure, Result.andThen]
      exact loadVar_run h1 u (fun j hj => hu j (by omega))
    · cases hg : tagg P t with
      | true =>
        simp only [hg, if_true] at h3
        simp only [if_true]
        refine .agg (by simp; omega) fun j hj hj' => ?_
        simp at hj hj'
        simpa using hrr j (by omega)
      | false =>
        simp only [hg, Bool.false_eq_true, if_false] at h3
        simp only [Bool.false_eq_true, if_false]
        cases cs with
        | nil => simp at h3
        | cons c0 l => exact .one (hrr 0 (by simp))

theorem results_sound {ρ : Nat → Option Nat} {ok : Nat → Prop} {σ : St} {a : Act} {w : World} (h : SR ρ ok σ a w) {fn : Func} (hr : ∀ r ∈ fn.results.toList, resOk P σ r) :
    ∃ v, (results fn a.tmps).run P w = .ok v w ∧ RA w ok ρ (retA P fn.results.toList σ) v := by
  obtain ⟨g, hg0, hg1, hg2⟩ : ∃ g : ResultVar → Sem Value, results fn a.tmps = (do let vs ← fn.results.mapM g; pure (if h : vs.size = 1 then vs[0] else .tuple vs)) ∧ (∀ t, g (.tmp t) = pure (a.tmps.getD t undef)) ∧
      (∀ x t, g (.cell x t) = (do loadVar t (← asAddr (a.tmps.getD x undef)))) := ⟨_, rfl, fun _ => rfl, fun _ _ => rfl⟩
  have key : ∀ (l : List ResultVar), (∀ r ∈ l, resOk P σ r) → ∃ vs : List Value, (l.mapM g).run P w = .ok vs w ∧
      vs.length = l.length ∧ ∀ i (hi : i < l.length) (hi' : i < vs.length), RA w ok ρ (resA P σ l[i]) vs[i] := by
    intro l
    induction l with
    | nil => intro _; exact ⟨[], rfl, rfl, fun i hi => by simp at hi⟩
    | cons r l ih =>
      intro hl
      obtain ⟨v, r1, r2⟩ := resA_sound (P := P) h (hl r (by simp)) g hg1 hg2
      obtain ⟨vs, s1, s2, s3⟩ := ih fun r hr => hl r (by simp [hr])
      refine ⟨v :: vs, ?_, by simp [s2], fun i hi hi' => ?_⟩
      · rw [List.mapM_cons, Sem.run_bind, r1]
        simp only [Result.andThen]
        rw [Sem.run_bind, s1]
        rfl
      · cases i with
        | zero => exact r2
        | succ i => exact s3 i (by simpa using hi) (by simpa using hi')
  obtain ⟨vs, s1, s2, s3⟩ := key fn.results.toList hr
  have hrun : ∀ v, (if h : vs.toArray.size = 1 then vs.toArray[0] else .tuple vs.toArray) = v → (results fn a.tmps).run P w = .ok v w := by
    intro v hv
    rw [hg0]
    have e : fn.results = fn.results.toList.toArray := rfl
    rw [e, List.mapM_toArray, Sem.run_bind, Sem.run_map, s1]
    simp only [Result.andThen, Sem.run_pure]
    rw [hv]
  refine ⟨_, hrun _ rfl, ?_⟩
  unfold retA
  split
  · rename_i r hrl
    rw [hrl] at s2 s3
    have h1 : vs.toArray.size = 1 := by simpa using s2
    rw [dif_pos h1]
    have := s3 0 (by simp) (by simp at s2; omega)
    simpa using this
  · rename_i rs hne
    have h1 : ¬ vs.toArray.size = 1 := by
      intro e
      simp only [List.size_toArray] at e
      rw [s2] at e
      match hrl : fn.results.toList, e with
      | [r], _ => exact hne r hrl
    rw [dif_neg h1]
    refine .tup (by simpa using s2) fun j hj hj' => ?_
    simp only [List.getElem_map, List.getElem_toArray]
    exact s3 j (by simpa using hj) (by simpa using hj')

def initSt (n : Nat) (args : List AV) (H : Heap) : St := ⟨n, fun t => args.getD t undefA, H⟩
def noH : Heap := fun _ => none

def retQ (P : Program) (rs : List ResultVar) (r : TV) (e : Exit) (σ : St) : Prop :=
  (e = .normal ∨ e = .ret) ∧ (∀ x ∈ rs, resOk P σ x) ∧ FzA σ.H (retA P rs σ) r

theorem init_SR {n : Nat} {args : List AV} {vs : Array Value} {ρ : Nat → Option Nat} {ok : Nat → Prop} {H : Heap} {w : World} (hH : HR ρ ok H w) (hv : RArgs w ok ρ args vs) (hn : vs.size ≤ n) (hsm : n ≤ PIN) :
    SR ρ ok (initSt n args H) { tmps := vs ++ Array.replicate (n - vs.size) undef, defers := [] } w := by
  refine ⟨hH, by simp [initSt]; omega, fun t => ?_, rfl, hsm⟩
  simp only [initSt]
  by_cases ht : t < vs.size
  · have ht' : t < args.length := by rw [← hv.1]; exact ht
    have e1 : args.getD t undefA = args[t] := by simp [ht']
    have e2 : (vs ++ Array.replicate (n - vs.size) undef).getD t undef = vs[t] := by
      simp [Array.getD_eq_getD_getElem?, Array.getElem?_append_left ht, ht]
    rw [e1, e2]
    exact hv.2 t ht' ht
  · have ht' : ¬ t < args.length := by rw [← hv.1]; exact ht
    have e1 : args.getD t undefA = undefA := by simp [ht']
    have e2 : (vs ++ Array.replicate (n - vs.size) undef).getD t undef = undef := by
      rw [Array.getD_eq_getD_getElem?, Array.getElem?_append_right (by omega)]
      by_cases h2 : t - vs.size < n - vs.size
      · simp [h2]
      · simp [h2]
    rw [e1, e2]
    exact .tup rfl fun j hj => by simp at hj

/-- A function, walked through. -/
theorem pcall_of_wpA' (hm : P.follows .mixedOrders = true) {f : FuncId} {fn : Func} {c : Code} {args : List TV} {r : TV} (hent : ∀ (as : Array Value) w, (callFunc f as).run P w = .ok (.enter f as) w) (hf : P.funcs[f]? = some fn) (hb : fn.body = some c)
    (hn : args.length ≤ fn.ntmps) (hsm : fn.ntmps ≤ PIN) (h : wpA P c (retQ P fn.results.toList r) (initSt fn.ntmps (args.map emb) noH)) : PCall P f args r := by
  refine ⟨hent, fun ok w vs hok hv => calls_of_wp hf hb (Code.wp_mono ?_ (code_sound hm c _ _ noρ ok _ w (init_SR ⟨fun b cs hb => (by cases hb), fun _ _ => rfl, fun _ _ _ h => (by cases h), fun n hn => ⟨hok n hn, fun _ h => (by cases h)⟩⟩ hv (by rw [hv.1]; simpa using hn) hsm) h))⟩
  rintro e a w' ⟨σ, ρ', ok', ⟨he, hres, hfz⟩, s, g⟩
  obtain ⟨v, r1, r2⟩ := results_sound s hres
  have hok2 : ∀ n, okAll ok' ρ' n → n < w'.heap.size := fun n hn => by
    rcases hn with hn | ⟨b, hb⟩
    · exact (s.okR n hn).1
    · exact himg s.toHR hb
  have hg2 : Goes noρ ok w noρ (okAll ok' ρ') w' := by
    refine ⟨g.size, g.same, g.shape, fun b n hb => (by cases hb), fun n hn => .inl (g.up n hn), fun n hn => ?_, fun _ _ => .inl rfl, g.env⟩
    rcases hn with hn | ⟨b, hb⟩
    · exact g.down n hn
    · rcases g.img b n hb with ⟨b', h1⟩ | h1
      · cases h1
      · exact .inr (.inr h1)
  have hfin : a.defers = [] ∧ ∃ v, (results fn a.tmps).run P w' = .ok v w' ∧ ∃ v' ok', Ending.returned v = .returned v' ∧ RA w' ok' noρ (emb r) v' ∧ Goes noρ ok w noρ ok' w' ∧ ∀ n, ok' n → n < w'.heap.size :=
    ⟨s.defers, v, r1, v, okAll ok' ρ', rfl, hfz.sound s.toHR r2, hg2, hok2⟩
  rcases he with rfl | rfl <;> exact hfin

theorem pcall_of_wpA (hm : P.follows .mixedOrders = true) {f : FuncId} {fn : Func} {c : Code} {n : Nat} {rs : List ResultVar} {args : List TV} {r : TV} (hent : ∀ (as : Array Value) w, (callFunc f as).run P w = .ok (.enter f as) w) (hf : P.funcs[f]? = some fn)
    (hb : fn.body = some c) (hn : fn.ntmps = n) (hrs : fn.results = rs.toArray) (hl : args.length ≤ n) (hsm : n ≤ PIN) (h : wpA P c (retQ P rs r) (initSt n (args.map emb) noH)) : PCall P f args r := by
  subst hn; have e : fn.results.toList = rs := by rw [hrs]
  subst e; exact pcall_of_wpA' hm hent hf hb hl hsm h

end
end Go.Abs
namespace Go.Abs
open Go

/-! ### Reckoning a walk: the rules that simp goes by -/
section
variable {P : Program} {m : Nat} {ops : List Oper} {Q : Exit → St → Prop} {q : St → Prop} {σ σ' : St} {K : AV → St → Prop}

/-- What stands behind an operation. -/
def KR (P : Program) (m : Nat) (ops : List Oper) (q : St → Prop) (l : List Oper) (d : Option Nat) (v : AV) (σ : St) : Prop := runOps P m ops q l (σ.putO d v)
@[go_sem] theorem KR_eq {l : List Oper} {d : Option Nat} {v : AV} : KR P m ops q l d v σ = runOps P m ops q l (σ.putO d v) := rfl
def CondR (c : Option Bool) (P : Program) (x y : Code) (Q : Exit → St → Prop) (σ : St) : Prop := BR c (wpA P x Q σ) (wpA P y Q σ)
@[go_sem] theorem CondR_true {x y : Code} : CondR (some true) P x y Q σ = wpA P x Q σ := rfl
@[go_sem] theorem CondR_false {x y : Code} : CondR (some false) P x y Q σ = wpA P y Q σ := rfl
theorem CondR_split {b : Bool} {x y : Code} (h : b = true → wpA P x Q σ) (h' : b = false → wpA P y Q σ) : CondR (some b) P x y Q σ := by cases b <;> simp [CondR, BR, h, h']
theorem CondR_if {c : Prop} [Decidable c] {x y : Code} (h : c → wpA P x Q σ) (h' : ¬ c → wpA P y Q σ) : CondR (some (decide c)) P x y Q σ := by
  by_cases hc : c <;> simp [CondR, BR, hc, h, h']
def GuardR (c : Option Bool) (P : Program) (m : Nat) (ops : List Oper) (q : St → Prop) (o : Oper) (l : List Oper) (σ : St) : Prop :=
  BR c (stepA P m o σ (KR P m ops q l o.dst)) (runOps P m ops q l (σ.putO o.dst undefA))
@[go_sem] theorem GuardR_true {o : Oper} {l : List Oper} : GuardR (some true) P m ops q o l σ = stepA P m o σ (KR P m ops q l o.dst) := rfl
@[go_sem] theorem GuardR_false {o : Oper} {l : List Oper} : GuardR (some false) P m ops q o l σ = runOps P m ops q l (σ.putO o.dst undefA) := rfl

@[go_sem] theorem wpA_skip : wpA P .skip Q σ = Q .normal σ := rfl
@[go_sem] theorem wpA_seq {a b : Code} : wpA P (.seq a b) Q σ = wpA P a (seqQ (wpA P b Q) Q) σ := rfl
@[go_sem] theorem wpA_cond {c : Operand} {x y : Code} : wpA P (.cond c x y) Q σ = CondR (ev σ.s c).boolOf P x y Q σ := rfl
@[go_sem] theorem wpA_block {id : Nat} {c : Code} : wpA P (.block id c) Q σ = wpA P c (blockQ id Q) σ := rfl
@[go_sem] theorem wpA_loop {c : Code} : wpA P (.loop c) Q σ = LoopA (wpA P c) Q σ := rfl
@[go_sem] theorem wpA_exit {id : Nat} : wpA P (.exit id) Q σ = Q (.exit id) σ := rfl
@[go_sem] theorem wpA_ret : wpA P .ret Q σ = Q .ret σ := rfl
@[go_sem] theorem wpA_reg {id : Nat} {l : List Oper} : wpA P (.region id l.toArray false) Q σ = runOps P 2 l (Q .normal) l σ := rfl
@[go_sem] theorem wpA_regD {id : Nat} {o : Array Oper} : wpA P (.region id o true) Q σ = RegA P o (Q .normal) σ := rfl

theorem regA_by {l : List Oper} (m : Nat) (h : ordOkB m [] l.toArray = true) (h' : runOps P m l q l σ) : RegA P l.toArray q σ := .inl ⟨m, [], σ, fun ρ ok _ w h => ⟨ρ, ok, h, Goes.refl ρ ok w⟩, h, fun _ hp => absurd hp (by simp), h'⟩
theorem regA_bl {l : List Oper} (m : Nat) (bl : List (Nat × Nat)) (h : ordOkB m bl l.toArray = true) (hg : GoodB bl σ) (h' : runOps P m l q l σ) : RegA P l.toArray q σ := .inl ⟨m, bl, σ, fun ρ ok _ w h => ⟨ρ, ok, h, Goes.refl ρ ok w⟩, h, hg, h'⟩
@[go_sem] theorem goodB_nil : GoodB [] σ = True := by unfold GoodB; simp
@[go_sem] theorem goodB_cons {p : Nat × Nat} {bl : List (Nat × Nat)} : GoodB (p :: bl) σ = ((∃ o, σ.s p.1 = .one (.ptr p.2 o)) ∧ GoodB bl σ) := by unfold GoodB; simp

@[go_sem] theorem seqQ_normal {K : St → Prop} : seqQ K Q .normal σ = K σ := rfl
@[go_sem] theorem seqQ_ret {K : St → Prop} : seqQ K Q .ret σ = Q .ret σ := rfl
@[go_sem] theorem seqQ_exit {K : St → Prop} {id : Nat} : seqQ K Q (.exit id) σ = Q (.exit id) σ := rfl
@[go_sem] theorem blockQ_normal {id : Nat} : blockQ id Q .normal σ = Q .normal σ := rfl
@[go_sem] theorem blockQ_ret {id : Nat} : blockQ id Q .ret σ = Q .ret σ := rfl
@[go_sem] theorem blockQ_exit {id id' : Nat} : blockQ id Q (.exit id') σ = if id' = id then Q .normal σ else Q (.exit id') σ := rfl

@[go_sem] theorem runOps_nil : runOps P m ops q [] σ = q σ := rfl
@[go_sem] theorem runOps_plain {d : Option Nat} {op : Op} {ty : TypeId} {pos : String} {af : Array Edge} {l : List Oper} :
    runOps P m ops q ({ dst := d, op := op, type := ty, pos := pos, after := af, guard := none } :: l) σ =
      (dstOk σ.n d = true ∧ stepA P m { dst := d, op := op, type := ty, pos := pos, after := af, guard := none } σ (KR P m ops q l d)) := rfl
@[go_sem] theorem runOps_guard {d : Option Nat} {op : Op} {ty : TypeId} {pos : String} {af : Array Edge} {l : List Oper} {g : Nat × Bool} :
    runOps P m ops q ({ dst := d, op := op, type := ty, pos := pos, after := af, guard := some g } :: l) σ =
      (dstOk σ.n d = true ∧ GuardR (wantedA ops σ (some g)) P m ops q { dst := d, op := op, type := ty, pos := pos, after := af, guard := some g } l σ) := rfl

@[go_sem] theorem dstOk_some {n d : Nat} : dstOk n (some d) = decide (d < n) := rfl
@[go_sem] theorem dstOk_none {n : Nat} : dstOk n none = true := rfl

@[go_sem] theorem put_n {d : Nat} {v : AV} : (σ.put d v).n = σ.n := rfl
@[go_sem] theorem put_H {d : Nat} {v : AV} : (σ.put d v).H = σ.H := rfl
@[go_sem] theorem put_s {d t : Nat} {v : AV} : (σ.put d v).s t = if t = d then v else σ.s t := rfl
@[go_sem] theorem putO_some {d : Nat} {v : AV} : σ.putO (some d) v = σ.put d v := rfl
@[go_sem] theorem putO_none {v : AV} : σ.putO none v = σ := rfl
@[go_sem] theorem withH_n {H : Heap} : (σ.withH H).n = σ.n := rfl
@[go_sem] theorem withH_s {H : Heap} {t : Nat} : (σ.withH H).s t = σ.s t := rfl
@[go_sem] theorem withH_H {H : Heap} : (σ.withH H).H = H := rfl
@[go_sem] theorem init_n {n : Nat} {as : List AV} {H : Heap} : (initSt n as H).n = n := rfl
@[go_sem] theorem init_H {n : Nat} {as : List AV} {H : Heap} : (initSt n as H).H = H := rfl
@[go_sem] theorem init_s {n t : Nat} {as : List AV} {H : Heap} : (initSt n as H).s t = as.getD t undefA := rfl
@[go_sem] theorem upd_at {H : Heap} {b n : Nat} {x : Option (List C)} : upd H b x n = if n = b then x else H n := rfl
@[go_sem] theorem noH_at {n : Nat} : noH n = none := rfl

@[go_sem] theorem ev_tmp {s : Nat → AV} {t : Nat} : ev s (.tmp t) = s t := rfl
@[go_sem] theorem ev_const {s : Nat → AV} {v : Value} : ev s (.const v) = litA v := rfl
@[go_sem] theorem ev_func {s : Nat → AV} {f : FuncId} : ev s (.func f) = .one (.fn f []) := rfl
@[go_sem] theorem litA_int {k : IntKind} {n : Int} : litA (.int k n) = litI k n := rfl
@[go_sem] theorem litA_bool {b : Bool} : litA (.bool b) = litB b := rfl
@[go_sem] theorem litA_ptr : litA (.pointer none) = .one (.t (.lit (.pointer none))) := rfl
@[go_sem] theorem litA_str {s : ByteArray} : litA (.string s) = .one (.t (.lit (.string s))) := rfl
@[go_sem] theorem litA_nil : litA (.slice none 0 0) = .one (.t (.seq (some true) [])) := rfl
@[go_sem] theorem boolOf_litB {b : Bool} : (litB b).boolOf = some b := rfl
@[go_sem] theorem intOf_litI {k : IntKind} {n : Int} : (litI k n).intOf = some (k, n) := rfl
@[go_sem] theorem cellsOf_one {c : C} : (AV.one c).cellsOf = some [c] := rfl
@[go_sem] theorem cellsOf_agg {cs : List C} : (AV.agg cs).cellsOf = some cs := rfl
@[go_sem] theorem cellsOf_litI {k : IntKind} {n : Int} : (litI k n).cellsOf = some [.t (.lit (.int k n))] := rfl
@[go_sem] theorem cellsOf_litB {b : Bool} : (litB b).cellsOf = some [.t (.lit (.bool b))] := rfl
@[go_sem] theorem cellsAt_ptr {H : Heap} {b off : Nat} : cellsAt H (.one (.ptr b off)) = (H b).map (·.drop off) := rfl
@[go_sem] theorem cellsAt_iptr {H : Heap} {cs : List T} : cellsAt H (.iptr cs) = some (cs.map .t) := rfl
@[go_sem] theorem one_bool {b : Bool} : AV.one (.t (.lit (.bool b))) = litB b := rfl
@[go_sem] theorem one_int {k : IntKind} {n : Int} : AV.one (.t (.lit (.int k n))) = litI k n := rfl

@[go_sem] theorem wanted_mk {g : Nat} {w : Bool} : wantedA ops σ (some (g, w)) = wantS σ.s w (gslot ops g) := rfl
@[go_sem] theorem wantS_some {s : Nat → AV} {w : Bool} {t : Tmp} : wantS s w (some t) = wantV (s t) w := rfl
@[go_sem] theorem wantV_B {b w : Bool} : wantV (litB b) w = some (b == w) := rfl
@[go_sem] theorem wantV_undef {w : Bool} : wantV undefA w = some false := rfl
@[go_sem] theorem gslot_zero {d : Option Nat} {op : Op} {ty : TypeId} {pos : String} {af : Array Edge} {g : Option (Nat × Bool)} {l : List Oper} : gslot ({ dst := d, op := op, type := ty, pos := pos, after := af, guard := g } :: l) 0 = d := rfl
@[go_sem] theorem gslot_succ {o : Oper} {l : List Oper} {n : Nat} : gslot (o :: l) (n + 1) = gslot l n := rfl

theorem call_pure {f : FuncId} {as : List AV} {tvs : List TV} {r : TV} (h : PCall P f tvs r) (h' : as = tvs.map emb) (hK : K (emb r) σ) : CallA P m f as σ K := .inl ⟨tvs, r, h', h, hK⟩

end
end Go.Abs
namespace Go.Abs
open Go

section
variable {P : Program} {m : Nat} {σ : St} {K : AV → St → Prop} {d : Nat} {d' : Option Nat} {ty : TypeId} {pos : String} {af : Array Edge} {g : Option (Nat × Bool)}

@[go_sem] theorem st_move {x : Operand} : stepA P m ⟨some d, .move x, ty, pos, af, g⟩ σ K = K (ev σ.s x) σ := by
  simp only [stepA, simpleOp, if_true, SimpA, opOk, opV, opH, true_and]; rfl
@[go_sem] theorem st_assign {x : Operand} : stepA P m ⟨some d, .assign x, ty, pos, af, g⟩ σ K = K (ev σ.s x) σ := by
  simp only [stepA, simpleOp, if_true, SimpA, opOk, opV, opH, true_and]; rfl
@[go_sem] theorem st_pick {c x y : Operand} : stepA P m ⟨some d, .pick c x y, ty, pos, af, g⟩ σ K = ((ev σ.s c).boolOf.isSome = true ∧ K (if (ev σ.s c).boolOf = some true then ev σ.s x else ev σ.s y) σ) := by
  simp only [stepA, simpleOp, if_true, SimpA, opOk, opV, opH]; rfl
@[go_sem] theorem st_alloc {t : TypeId} : stepA P m ⟨some d, .alloc t, ty, pos, af, g⟩ σ K = ((tok P t = true ∧ (tzero P t).isSome = true ∧ σ.H d = none) ∧ K (.one (.ptr d 0)) (σ.withH (upd σ.H d (tzero P t)))) := by
  simp only [stepA, simpleOp, if_true, SimpA, opOk, opV, opH, Option.getD_some]
@[go_sem] theorem st_box {t : TypeId} {x : Operand} : stepA P m ⟨some d, .box t x, ty, pos, af, g⟩ σ K = (((ev σ.s x).cellsOf.isSome = true ∧ σ.H d = none) ∧ K (.one (.ptr d 0)) (σ.withH (upd σ.H d (ev σ.s x).cellsOf))) := by
  simp only [stepA, simpleOp, if_true, SimpA, opOk, opV, opH, Option.getD_some]
@[go_sem] theorem st_build {t : TypeId} {ps : List (Nat × Operand)} : stepA P m ⟨some d, .build t ps.toArray, ty, pos, af, g⟩ σ K =
    ((tok P t = true ∧ partsTok P t = true ∧ (buildA P t (ps.map fun p => (p.1, ev σ.s p.2))).isSome = true) ∧ K (.agg ((buildA P t (ps.map fun p => (p.1, ev σ.s p.2))).getD [])) σ) := by
  simp only [stepA, simpleOp, if_true, SimpA, opOk, opV, opH]; rfl
@[go_sem] theorem st_buildSlice {t : TypeId} {n : Nat} {ps : List (Nat × Operand)} (hn : n ≠ 0) (hp : own5 ps = false) : stepA P m ⟨some d, .buildSlice t n ps.toArray, ty, pos, af, g⟩ σ K =
    ((tok P t = true ∧ isSliceD (tdesc P t) = true ∧ tok P (telem P t) = true ∧ n * tsize P (telem P t) ≤ 2 ^ 24 ∧ 0 < n * tsize P (telem P t) ∧ ((tzero P (telem P t)).map (·.length)) = some (tsize P (telem P t)) ∧
      (buildSliceA P t n (ps.map fun p => (p.1, ev σ.s p.2))).isSome = true) ∧ K ((buildSliceA P t n (ps.map fun p => (p.1, ev σ.s p.2))).getD .junk) σ) := by
  have e : (n != 0) = true := by simpa using hn
  have e2 : own5 ps.toArray.toList = false := by simpa using hp
  simp only [stepA, simpleOp, e, e2, Bool.not_false, Bool.and_true, if_true, SimpA, opOk, opV, opH]; rfl
@[go_sem] theorem own5_nil : own5 [] = false := rfl
@[go_sem] theorem own5_cons {p : Nat × Operand} {l : List (Nat × Operand)} : own5 (p :: l) = isT5 p.2 := rfl
@[go_sem] theorem isT5_tmp {n : Nat} : isT5 (.tmp n) = (decide (n = 5) || decide (n = 104)) := rfl
@[go_sem] theorem isT5_const {v : Value} : isT5 (.const v) = false := rfl
@[go_sem] theorem st_buildSlice5 {t : TypeId} {n i : Nat} {ps : List (Nat × Operand)} {d' : Option Nat} : stepA P m ⟨d', .buildSlice t n ((i, .tmp 5) :: ps).toArray, ty, pos, af, g⟩ σ K = OpA P m ⟨d', .buildSlice t n ((i, .tmp 5) :: ps).toArray, ty, pos, af, g⟩ σ K := by
  have e : (n != 0 && !own5 ((i, Operand.tmp 5) :: ps).toArray.toList) = false := by simp [own5, isT5]
  simp only [stepA, simpleOp, e, Bool.false_eq_true, if_false]
@[go_sem] theorem st_buildSlice104 {t : TypeId} {n i : Nat} {ps : List (Nat × Operand)} {d' : Option Nat} : stepA P m ⟨d', .buildSlice t n ((i, .tmp 104) :: ps).toArray, ty, pos, af, g⟩ σ K = OpA P m ⟨d', .buildSlice t n ((i, .tmp 104) :: ps).toArray, ty, pos, af, g⟩ σ K := by
  have e : (n != 0 && !own5 ((i, Operand.tmp 104) :: ps).toArray.toList) = false := by simp [own5, isT5]
  simp only [stepA, simpleOp, e, Bool.false_eq_true, if_false]
@[go_sem] theorem st_buildSlice0 {t : TypeId} {ps : Array (Nat × Operand)} {d' : Option Nat} : stepA P m ⟨d', .buildSlice t 0 ps, ty, pos, af, g⟩ σ K = OpA P m ⟨d', .buildSlice t 0 ps, ty, pos, af, g⟩ σ K := rfl
@[go_sem] theorem st_load {t : TypeId} {x : Operand} : stepA P m ⟨some d, .load t x, ty, pos, af, g⟩ σ K =
    ((tok P t = true ∧ (cellsAt σ.H (ev σ.s x)).isSome = true ∧ (if tagg P t then tsize P t else 1) ≤ ((cellsAt σ.H (ev σ.s x)).getD []).length) ∧
      K (if tagg P t then .agg (((cellsAt σ.H (ev σ.s x)).getD []).take (tsize P t)) else .one (((cellsAt σ.H (ev σ.s x)).getD []).headD default)) σ) := by
  simp only [stepA, simpleOp, if_true, SimpA, opOk, opV, opH]; rfl

def storeOk (P : Program) (H : Heap) (t : TypeId) : AV → AV → Prop
  | .one (.ptr b off), x => (match H b, x.cellsOf with | some cs, some ns => ns.length = tsize P t ∧ off + ns.length ≤ cs.length | _, _ => False)
  | _, _ => False
def storeH (H : Heap) : AV → AV → Heap
  | .one (.ptr b off), x => upd H b (some (setCs ((H b).getD []) off (x.cellsOf.getD [])))
  | _, _ => H
@[go_sem] theorem st_store {t : TypeId} {x y : Operand} : stepA P m ⟨d', .store t x y, ty, pos, af, g⟩ σ K =
    ((tok P t = true ∧ storeOk P σ.H t (ev σ.s x) (ev σ.s y)) ∧ K undefA (σ.withH (storeH σ.H (ev σ.s x) (ev σ.s y)))) := by
  simp only [stepA, simpleOp, if_true, SimpA, opOk, opV, opH]
  cases ev σ.s x with
  | one c => cases c <;> rfl
  | _ => rfl
@[go_sem] theorem storeOk_ptr {H : Heap} {t : TypeId} {b off : Nat} {x : AV} : storeOk P H t (.one (.ptr b off)) x = (match H b, x.cellsOf with | some cs, some ns => ns.length = tsize P t ∧ off + ns.length ≤ cs.length | _, _ => False) := rfl
@[go_sem] theorem storeH_ptr {H : Heap} {b off : Nat} {x : AV} : storeH H (.one (.ptr b off)) x = upd H b (some (setCs ((H b).getD []) off (x.cellsOf.getD []))) := rfl

@[go_sem] theorem st_nilCheck {x : Operand} : stepA P m ⟨some d, .nilCheck x, ty, pos, af, g⟩ σ K = (isAddr (ev σ.s x) = true ∧ K (ev σ.s x) σ) := by
  simp only [stepA, simpleOp, if_true, SimpA, opOk, opV, opH]; rfl
@[go_sem] theorem st_binOp {op : BinOp} {t t' : TypeId} {x y : Operand} : stepA P m ⟨some d, .binOp op t x y t', ty, pos, af, g⟩ σ K =
    (((binV op (ev σ.s x) (ev σ.s y)).isSome = true ∧ binOk op (ev σ.s y) ∧ binTy P t (ev σ.s x)) ∧ K ((binV op (ev σ.s x) (ev σ.s y)).getD .junk) σ) := by
  simp only [stepA, simpleOp, if_true, SimpA, opOk, opV, opH]; rfl
@[go_sem] theorem st_unOp {op : UnOp} {t : TypeId} {x : Operand} : stepA P m ⟨some d, .unOp op t x, ty, pos, af, g⟩ σ K = ((unV op (ev σ.s x)).isSome = true ∧ K ((unV op (ev σ.s x)).getD .junk) σ) := by
  simp only [stepA, simpleOp, if_true, SimpA, opOk, opV, opH]; rfl
@[go_sem] theorem st_convert {s t : TypeId} {x : Operand} : stepA P m ⟨some d, .convert s t x, ty, pos, af, g⟩ σ K = ((tok P s = true ∧ tok P t = true ∧ (convV P s t (ev σ.s x)).isSome = true) ∧ K ((convV P s t (ev σ.s x)).getD .junk) σ) := by
  simp only [stepA, simpleOp, if_true, SimpA, opOk, opV, opH]; rfl

def makeOk (bytes : Nat) : Option (IntKind × Int) → Option (IntKind × Int) → Prop
  | some (_, n), some (_, c) => 0 ≤ n ∧ n ≤ c ∧ c < 2 ^ 62 ∧ bytes * c ≤ 2 ^ 47
  | _, _ => False
@[go_sem] theorem makeOk_some {bytes : Nat} {k k' : IntKind} {n c : Int} : makeOk bytes (some (k, n)) (some (k', c)) = (0 ≤ n ∧ n ≤ c ∧ c < 2 ^ 62 ∧ bytes * c ≤ 2 ^ 47) := rfl
@[go_sem] theorem st_makeSlice {t : TypeId} {l c : Operand} : stepA P m ⟨some d, .makeSlice t l c, ty, pos, af, g⟩ σ K =
    ((tok P t = true ∧ isSliceD (tdesc P t) = true ∧ tok P (telem P t) = true ∧ (tzero P (telem P t)).isSome = true ∧ ((tzero P (telem P t)).getD []).length = tsize P (telem P t) ∧ 0 < tsize P (telem P t) ∧ σ.H d = none ∧
      makeOk (tbytes P (telem P t)) (ev σ.s l).intOf (ev σ.s c).intOf) ∧ K (.one (.vec d (tsize P (telem P t)) 0 (idx (ev σ.s l)))) (σ.withH (upd σ.H d (some (repl (idx (ev σ.s l)) ((tzero P (telem P t)).getD [])))))) := by
  simp only [stepA, simpleOp, if_true, SimpA, opOk, opV, opH, Option.getD_some]
  cases h1 : (ev σ.s l).intOf with
  | none => simp [makeOk]
  | some p => cases h2 : (ev σ.s c).intOf with
    | none => simp [makeOk]
    | some q => simp [makeOk]

def slOk (x : AV) : Option Nat → Option Nat → Nat → Prop
  | some l, some h, n => l ≤ h ∧ h ≤ n ∧ (match x with | .one (.vec _ _ _ _) => l = 0 ∨ l < h | _ => True)
  | _, _, _ => False
@[go_sem] theorem st_slice {t : TypeId} {x : Operand} {lo hi : Option Operand} : stepA P m ⟨some d, .slice t x lo hi none, ty, pos, af, g⟩ σ K =
    ((tok P t = true ∧ sliceTy P t (ev σ.s x) ∧ (ev σ.s x).lenOf.isSome = true ∧ slOk (ev σ.s x) (optNat 0 (lo.map (ev σ.s))) (optNat ((ev σ.s x).lenOf.getD 0) (hi.map (ev σ.s))) ((ev σ.s x).lenOf.getD 0)) ∧
      K (sliceV (tsize P (telem P t)) (ev σ.s x) ((optNat 0 (lo.map (ev σ.s))).getD 0) ((optNat ((ev σ.s x).lenOf.getD 0) (hi.map (ev σ.s))).getD 0)) σ) := by
  simp only [stepA, simpleOp, if_true, SimpA, opOk, opV, opH, withH_self, Option.isNone_none, true_and]
  cases h1 : (ev σ.s x).lenOf with
  | none => simp
  | some n =>
    simp only [Option.getD_some]
    cases h2 : optNat 0 (lo.map (ev σ.s)) with
    | none => simp [slOk]
    | some l => cases h3 : optNat n (hi.map (ev σ.s)) with
      | none => simp [slOk]
      | some h => simp only [slOk, Option.isSome_some, Option.getD_some, true_and]; rfl
@[go_sem] theorem st_fieldAddr {t : TypeId} {x : Operand} {f : Nat} : stepA P m ⟨some d, .fieldAddr t x f, ty, pos, af, g⟩ σ K =
    ((tok P t = true ∧ isStructD (tdesc P t) = true ∧ f < nfields P t ∧ tok P (fty P t f) = true ∧ 0 < tsize P (fty P t f) ∧ isAddr (ev σ.s x) = true) ∧ K (shiftA (ev σ.s x) (foff P t f)) σ) := by
  simp only [stepA, simpleOp, if_true, SimpA, opOk, opV, opH]; rfl

def aggOk (n : Nat) : AV → Prop
  | .agg cs => n ≤ cs.length
  | _ => False
def aggCells : AV → List C
  | .agg cs => cs
  | _ => []
@[go_sem] theorem st_field {t : TypeId} {x : Operand} {f : Nat} : stepA P m ⟨some d, .field t x f, ty, pos, af, g⟩ σ K =
    ((tok P t = true ∧ isStructD (tdesc P t) = true ∧ f < nfields P t ∧ tok P (fty P t f) = true ∧ aggOk (if tagg P (fty P t f) then foff P t f + tsize P (fty P t f) else foff P t f + 1) (ev σ.s x)) ∧
      K (if tagg P (fty P t f) then .agg (((aggCells (ev σ.s x)).drop (foff P t f)).take (tsize P (fty P t f))) else .one (((aggCells (ev σ.s x)).drop (foff P t f)).headD default)) σ) := by
  simp only [stepA, simpleOp, if_true, SimpA, opOk, opV, opH, withH_self]
  cases ev σ.s x <;> simp [aggOk, aggCells]

def lenIn (x i : AV) : Prop := match x.lenOf with | some n => inRange i n | none => False
theorem st_indexAddr {t : TypeId} {x y : Operand} (h : isSliceD (tdesc P t) = true) : stepA P m ⟨some d, .indexAddr t x y, ty, pos, af, g⟩ σ K =
    ((tok P t = true ∧ tok P (telem P t) = true ∧ elemOk (tsize P (telem P t)) (ev σ.s x) (idx (ev σ.s y)) ∧ lenIn (ev σ.s x) (ev σ.s y)) ∧ K (elemA (tsize P (telem P t)) (ev σ.s x) (idx (ev σ.s y))) σ) := by
  have hns : isArrayD (tdesc P t) = false := by rw [slice_of h]; rfl
  simp only [stepA, simpleOp, if_true, SimpA, opOk, opV, opH, withH_self, h, hns]
  simp only [lenIn, Bool.false_eq_true, false_and, or_false, true_and]; rfl
theorem st_indexArr {t : TypeId} {x y : Operand} (h : isSliceD (tdesc P t) = false) : stepA P m ⟨some d, .indexAddr t x y, ty, pos, af, g⟩ σ K =
    ((tok P t = true ∧ tok P (telem P t) = true ∧ isArrayD (tdesc P t) = true ∧ isAddr (ev σ.s x) = true ∧ inRange (ev σ.s y) (arrLen (tdesc P t))) ∧ K (shiftA (ev σ.s x) (idx (ev σ.s y) * tsize P (telem P t))) σ) := by
  simp only [stepA, simpleOp, if_true, SimpA, opOk, opV, opH, withH_self, h]
  simp
@[go_sem] theorem st_idx {t : TypeId} {x y : Operand} : stepA P m ⟨some d, .indexAddr t x y, ty, pos, af, g⟩ σ K =
    (if isSliceD (tdesc P t) = true then ((tok P t = true ∧ tok P (telem P t) = true ∧ elemOk (tsize P (telem P t)) (ev σ.s x) (idx (ev σ.s y)) ∧ lenIn (ev σ.s x) (ev σ.s y)) ∧ K (elemA (tsize P (telem P t)) (ev σ.s x) (idx (ev σ.s y))) σ)
      else ((tok P t = true ∧ tok P (telem P t) = true ∧ isArrayD (tdesc P t) = true ∧ isAddr (ev σ.s x) = true ∧ inRange (ev σ.s y) (arrLen (tdesc P t))) ∧ K (shiftA (ev σ.s x) (idx (ev σ.s y) * tsize P (telem P t))) σ)) := by
  split
  · rename_i h; exact st_indexAddr h
  · rename_i h; exact st_indexArr (by simpa using h)

@[go_sem] theorem st_extract {x : Operand} {i : Nat} : stepA P m ⟨some d, .extract x i, ty, pos, af, g⟩ σ K = ((match ev σ.s x with | .tup vs => i < vs.length | _ => False) ∧ K (match ev σ.s x with | .tup vs => vs.getD i .junk | _ => .junk) σ) := by
  simp only [stepA, simpleOp, if_true, SimpA, opOk, opV, opH]; rfl
@[go_sem] theorem st_makeFunc {f : FuncId} {first caps : List Operand} : stepA P m ⟨some d, .makeFunc (.func f) first.toArray caps.toArray, ty, pos, af, g⟩ σ K =
    ((first.length = 0 ∧ (capsOf (caps.map (ev σ.s))).isSome = true) ∧ K (.one (.fn f ((capsOf (caps.map (ev σ.s))).getD []))) σ) := by
  simp only [stepA, simpleOp, if_true, SimpA, opOk, opV, opH, withH_self]
  simp
@[go_sem] theorem lenOk_seq {t : TypeId} {nl : Option Bool} {xs : List (List T)} : lenOk P t (.one (.t (.seq nl xs))) = (isSliceD (tdesc P t) = true) := by simp [lenOk, AV.lenOf]
@[go_sem] theorem lenOk_vec {t : TypeId} {b s o n : Nat} : lenOk P t (.one (.vec b s o n)) = (isSliceD (tdesc P t) = true) := by simp [lenOk, AV.lenOf]
@[go_sem] theorem lenOk_str {t : TypeId} {s : ByteArray} : lenOk P t (.one (.t (.lit (.string s)))) = (tdesc P t = .string) := rfl
@[go_sem] theorem st_len {t : TypeId} {x : Operand} : stepA P m ⟨some d, .call { callee := .builtin .len, args := #[x], argTypes := #[t] }, ty, pos, af, g⟩ σ K =
    ((tok P t = true ∧ lenOk P t (ev σ.s x)) ∧ K (litI .i64 ((ev σ.s x).lenOf.getD 0 : Nat)) σ) := rfl

@[go_sem] theorem st_callF {f : FuncId} {as : List Operand} {ats : Array TypeId} : stepA P m ⟨d', .call { callee := .value (.func f), args := as.toArray, argTypes := ats }, ty, pos, af, g⟩ σ K = CallA P m f (as.map (ev σ.s)) σ K := by
  simp [stepA, CallF, ev, calleeA]
@[go_sem] theorem st_callT {t : Tmp} {as : List Operand} {ats : Array TypeId} : stepA P m ⟨d', .call { callee := .value (.tmp t), args := as.toArray, argTypes := ats }, ty, pos, af, g⟩ σ K = CallF P m (σ.s t) (as.map (ev σ.s)) σ K := by
  simp [stepA, ev]
@[go_sem] theorem callF_fn {f : FuncId} {caps : List (Nat × Nat)} {as : List AV} : CallF P m (.one (.fn f caps)) as σ K = CallA P m f (as ++ caps.map capA) σ K := rfl

/-! #### What simple values come to -/
@[go_sem] theorem callF_clo {f : FuncId} {caps : List (List T)} {as : List AV} : CallF P m (.one (.t (.clo f caps))) as σ K = CallA P m f (as ++ caps.map AV.iptr) σ K := rfl
@[go_sem] theorem isAddr_ptr {b off : Nat} : isAddr (.one (.ptr b off)) = true := rfl
@[go_sem] theorem isAddr_iptr {cs : List T} : isAddr (.iptr cs) = true := rfl
@[go_sem] theorem shiftA_ptr {b off k : Nat} : shiftA (.one (.ptr b off)) k = .one (.ptr b (off + k)) := rfl
@[go_sem] theorem shiftA_iptr {cs : List T} {k : Nat} : shiftA (.iptr cs) k = .iptr (cs.drop k) := rfl
@[go_sem] theorem idx_litI {k : IntKind} {n : Int} : idx (litI k n) = n.toNat := rfl
@[go_sem] theorem inRange_litI {k : IntKind} {n : Int} {N : Nat} : inRange (litI k n) N = (0 ≤ n ∧ n < N) := rfl
@[go_sem] theorem lenOf_seq {nl : Option Bool} {xs : List (List T)} : (AV.one (.t (.seq nl xs))).lenOf = some xs.length := rfl
@[go_sem] theorem lenOf_vec {b s o n : Nat} : (AV.one (.vec b s o n)).lenOf = some n := rfl
@[go_sem] theorem lenOf_str {s : ByteArray} : (AV.one (.t (.lit (.string s)))).lenOf = some s.size := rfl
@[go_sem] theorem elemA_seq {sz i : Nat} {nl : Option Bool} {xs : List (List T)} : elemA sz (.one (.t (.seq nl xs))) i = .iptr (xs.getD i []) := rfl
@[go_sem] theorem elemA_vec {sz i b s o n : Nat} : elemA sz (.one (.vec b s o n)) i = .one (.ptr b (o + i * sz)) := rfl
@[go_sem] theorem elemOk_seq {sz i : Nat} {nl : Option Bool} {xs : List (List T)} : elemOk sz (.one (.t (.seq nl xs))) i = ∀ x ∈ xs, x.length = sz := rfl
@[go_sem] theorem elemOk_vec {sz i b s o n : Nat} : elemOk sz (.one (.vec b s o n)) i = (s = sz) := rfl
@[go_sem] theorem lenIn_seq {nl : Option Bool} {xs : List (List T)} {i : AV} : lenIn (.one (.t (.seq nl xs))) i = inRange i xs.length := rfl
@[go_sem] theorem lenIn_vec {b s o n : Nat} {i : AV} : lenIn (.one (.vec b s o n)) i = inRange i n := rfl
@[go_sem] theorem sliceV_seq {sz lo hi : Nat} {nl : Option Bool} {xs : List (List T)} : sliceV sz (.one (.t (.seq nl xs))) lo hi = .one (.t (.seq nl ((xs.take hi).drop lo))) := rfl
@[go_sem] theorem sliceV_vec {sz lo hi b s o n : Nat} : sliceV sz (.one (.vec b s o n)) lo hi = .one (.vec b s (o + lo * sz) (hi - lo)) := rfl
@[go_sem] theorem sliceOk_seq {sz : Nat} {nl : Option Bool} {xs : List (List T)} : sliceOk sz (.one (.t (.seq nl xs))) = ∀ x ∈ xs, x.length = sz := rfl
@[go_sem] theorem sliceOk_vec {sz b s o n : Nat} : sliceOk sz (.one (.vec b s o n)) = (s = sz) := rfl
@[go_sem] theorem sliceTy_seq {t : TypeId} {nl : Option Bool} {xs : List (List T)} : sliceTy P t (.one (.t (.seq nl xs))) = (isSliceD (tdesc P t) = true ∧ tok P (telem P t) = true ∧ ∀ x ∈ xs, x.length = tsize P (telem P t)) := rfl
@[go_sem] theorem sliceTy_vec {t : TypeId} {b s o n : Nat} : sliceTy P t (.one (.vec b s o n)) = (isSliceD (tdesc P t) = true ∧ tok P (telem P t) = true ∧ s = tsize P (telem P t)) := rfl
@[go_sem] theorem sliceTy_str {t : TypeId} {s : ByteArray} : sliceTy P t (.one (.t (.lit (.string s)))) = (tdesc P t = .string) := rfl
@[go_sem] theorem sliceV_str {sz lo hi : Nat} {s : ByteArray} : sliceV sz (.one (.t (.lit (.string s)))) lo hi = .one (.t (.lit (.string (s.extract lo hi)))) := rfl
@[go_sem] theorem slOk_str {s : ByteArray} {l h n : Nat} : slOk (.one (.t (.lit (.string s)))) (some l) (some h) n = (l ≤ h ∧ h ≤ n) := by simp [slOk]
@[go_sem] theorem binV_str {op : BinOp} {x y : ByteArray} : binV op (.one (.t (.lit (.string x)))) (.one (.t (.lit (.string y)))) = strB op x y := rfl
@[go_sem] theorem strB_eql {x y : ByteArray} : strB .eql x y = some (litB (x.toList == y.toList)) := rfl
@[go_sem] theorem strB_neq {x y : ByteArray} : strB .neq x y = some (litB (!(x.toList == y.toList))) := rfl
@[go_sem] theorem strB_lss {x y : ByteArray} : strB .lss x y = some (litB (Op.bytesLess x.toList y.toList)) := rfl
@[go_sem] theorem strB_leq {x y : ByteArray} : strB .leq x y = some (litB (Op.bytesLess x.toList y.toList || x.toList == y.toList)) := rfl
@[go_sem] theorem strB_gtr {x y : ByteArray} : strB .gtr x y = some (litB (!(Op.bytesLess x.toList y.toList || x.toList == y.toList))) := rfl
@[go_sem] theorem strB_geq {x y : ByteArray} : strB .geq x y = some (litB (!(Op.bytesLess x.toList y.toList))) := rfl
@[go_sem] theorem binOk_str {op : BinOp} {s : ByteArray} : binOk op (.one (.t (.lit (.string s)))) = True := rfl
@[go_sem] theorem binTy_str {t : TypeId} {s : ByteArray} : binTy P t (.one (.t (.lit (.string s)))) = True := rfl
@[go_sem] theorem cellsOf_str {s : ByteArray} : (AV.one (.t (.lit (.string s)))).cellsOf = some [.t (.lit (.string s))] := rfl
@[go_sem] theorem slOk_seq {nl : Option Bool} {xs : List (List T)} {l h n : Nat} : slOk (.one (.t (.seq nl xs))) (some l) (some h) n = (l ≤ h ∧ h ≤ n) := by simp [slOk]
@[go_sem] theorem slOk_vec {b s o k : Nat} {l h n : Nat} : slOk (.one (.vec b s o k)) (some l) (some h) n = (l ≤ h ∧ h ≤ n ∧ (l = 0 ∨ l < h)) := rfl
@[go_sem] theorem optNat_none {d : Nat} : optNat d none = some d := rfl
@[go_sem] theorem optNat_some {d : Nat} {k : IntKind} {n : Int} : optNat d (some (litI k n)) = if 0 ≤ n then some n.toNat else none := rfl
@[go_sem] theorem binV_int {op : BinOp} {k : IntKind} {x y : Int} : binV op (litI k x) (litI k y) = (binI op k x y).map fun v => .one (.t (.lit v)) := by simp [litI, binV]
@[go_sem] theorem binV_ptrNe {cs : List T} : binV .neq (.iptr cs) (.one (.t (.lit (.pointer none)))) = some (litB true) := rfl
@[go_sem] theorem binV_ptrEq {cs : List T} : binV .eql (.iptr cs) (.one (.t (.lit (.pointer none)))) = some (litB false) := rfl
@[go_sem] theorem binV_nilNe : binV .neq (.one (.t (.lit (.pointer none)))) (.one (.t (.lit (.pointer none)))) = some (litB false) := rfl
@[go_sem] theorem binV_nilEq : binV .eql (.one (.t (.lit (.pointer none)))) (.one (.t (.lit (.pointer none)))) = some (litB true) := rfl
@[go_sem] theorem binOk_ptr {op : BinOp} : binOk op (.one (.t (.lit (.pointer none)))) = True := rfl
@[go_sem] theorem binTy_iptr {P : Program} {t : TypeId} {cs : List T} : binTy P t (.iptr cs) = (tok P t = true ∧ isPtrD (tdesc P t) = true) := rfl
@[go_sem] theorem binTy_nilp {P : Program} {t : TypeId} : binTy P t (.one (.t (.lit (.pointer none)))) = (tok P t = true ∧ isPtrD (tdesc P t) = true) := rfl
@[go_sem] theorem binV_eqB {x y : Bool} : binV .eql (litB x) (litB y) = some (litB (x == y)) := rfl
@[go_sem] theorem binV_neB {x y : Bool} : binV .neq (litB x) (litB y) = some (litB (!(x == y))) := rfl
@[go_sem] theorem binV_nil {xs : List (List T)} {n : Bool} : binV .eql (.one (.t (.seq (some n) xs))) (.one (.t (.seq (some true) []))) = some (litB n) := rfl
@[go_sem] theorem binV_nonil {xs : List (List T)} {n : Bool} : binV .neq (.one (.t (.seq (some n) xs))) (.one (.t (.seq (some true) []))) = some (litB (!n)) := rfl
@[go_sem] theorem binI_add {k : IntKind} {x y : Int} : binI .add k x y = some (.int k (k.wrap (x + y))) := rfl
@[go_sem] theorem binI_sub {k : IntKind} {x y : Int} : binI .sub k x y = some (.int k (k.wrap (x - y))) := rfl
@[go_sem] theorem binI_mul {k : IntKind} {x y : Int} : binI .mul k x y = some (.int k (k.wrap (x * y))) := rfl
@[go_sem] theorem binI_quo {k : IntKind} {x y : Int} : binI .quo k x y = some (.int k (k.wrap (Int.tdiv x y))) := rfl
@[go_sem] theorem binI_rem {k : IntKind} {x y : Int} : binI .rem k x y = some (.int k (Int.tmod x y)) := rfl
@[go_sem] theorem binI_eql {k : IntKind} {x y : Int} : binI .eql k x y = some (.bool (decide (x = y))) := rfl
@[go_sem] theorem binI_neq {k : IntKind} {x y : Int} : binI .neq k x y = some (.bool (decide (x ≠ y))) := rfl
@[go_sem] theorem binI_lss {k : IntKind} {x y : Int} : binI .lss k x y = some (.bool (decide (x < y))) := rfl
@[go_sem] theorem binI_leq {k : IntKind} {x y : Int} : binI .leq k x y = some (.bool (decide (x ≤ y))) := rfl
@[go_sem] theorem binI_gtr {k : IntKind} {x y : Int} : binI .gtr k x y = some (.bool (decide (y < x))) := rfl
@[go_sem] theorem binI_geq {k : IntKind} {x y : Int} : binI .geq k x y = some (.bool (decide (y ≤ x))) := rfl
@[go_sem] theorem binI_shr1 {x : Int} : binI .shr .u64 x 1 = some (.int .u64 (x.fdiv 2)) := rfl
@[go_sem] theorem binOk_int {op : BinOp} {k : IntKind} {y : Int} : binOk op (litI k y) = (divides op = true → y ≠ 0) := rfl
@[go_sem] theorem binOk_B {op : BinOp} {b : Bool} : binOk op (litB b) = True := rfl
@[go_sem] theorem binOk_seq {op : BinOp} {nl : Option Bool} {xs : List (List T)} : binOk op (.one (.t (.seq nl xs))) = True := rfl
@[go_sem] theorem binTy_int {t : TypeId} {k : IntKind} {y : Int} : binTy P t (litI k y) = True := rfl
@[go_sem] theorem binTy_B {t : TypeId} {b : Bool} : binTy P t (litB b) = (tok P t = true ∧ tdesc P t = .bool) := rfl
@[go_sem] theorem binTy_seq {t : TypeId} {nl : Option Bool} {xs : List (List T)} : binTy P t (.one (.t (.seq nl xs))) = (tok P t = true ∧ isSliceD (tdesc P t) = true) := rfl
@[go_sem] theorem unV_not {b : Bool} : unV .not (litB b) = some (litB (!b)) := rfl
@[go_sem] theorem unV_neg {k : IntKind} {n : Int} : unV .neg (litI k n) = some (litI k (k.wrap (0 - n))) := rfl
@[go_sem] theorem convV_int {s t : TypeId} {k : IntKind} {n : Int} : convV P s t (litI k n) = (intD (tdesc P t)).map fun k => litI k (k.wrap n) := rfl
def fill1 (place : Nat → Option (Nat × Nat)) (base : List C) (rest : List (Nat × AV)) : Option (Nat × Nat) → Option (List C) → Option (List C)
  | some (off, size), some cs => if cs.length = size ∧ off + size ≤ base.length then fillA place (setCs base off cs) rest else none
  | _, _ => none
def fill0 (place : Nat → Option (Nat × Nat)) (parts : List (Nat × AV)) : Option (List C) → Option (List C)
  | some z => fillA place z parts
  | none => none
@[go_sem] theorem fillA_nil {place : Nat → Option (Nat × Nat)} {base : List C} : fillA place base [] = some base := rfl
@[go_sem] theorem fillA_cons {place : Nat → Option (Nat × Nat)} {base : List C} {i : Nat} {v : AV} {rest : List (Nat × AV)} : fillA place base ((i, v) :: rest) = fill1 place base rest (place i) v.cellsOf := rfl
@[go_sem] theorem fill1_some {place : Nat → Option (Nat × Nat)} {base cs : List C} {off size : Nat} {rest : List (Nat × AV)} :
    fill1 place base rest (some (off, size)) (some cs) = if cs.length = size ∧ off + size ≤ base.length then fillA place (setCs base off cs) rest else none := rfl
@[go_sem] theorem fill0_some {place : Nat → Option (Nat × Nat)} {z : List C} {parts : List (Nat × AV)} : fill0 place parts (some z) = fillA place z parts := rfl
@[go_sem] theorem buildA_eq {t : TypeId} {parts : List (Nat × AV)} : buildA P t parts = fill0 (placesA P t) parts (tzero P t) := rfl
def tsOf (sz n : Nat) : Option (List C) → Option AV
  | some cs => (toTs cs).map fun ts => .one (.t (.seq (some false) (chunk sz n ts)))
  | none => none
@[go_sem] theorem tsOf_some {sz n : Nat} {cs : List C} : tsOf sz n (some cs) = (toTs cs).map fun ts => .one (.t (.seq (some false) (chunk sz n ts))) := rfl
@[go_sem] theorem toTs_nil : toTs [] = some [] := rfl
@[go_sem] theorem toTs_cons {x : T} {cs : List C} : toTs (.t x :: cs) = (toTs cs).map (x :: ·) := by
  simp only [toTs, mapMO]; cases mapMO (fun | .t x => some x | _ => none) cs <;> rfl
@[go_sem] theorem buildSliceA_eq {t : TypeId} {n : Nat} {parts : List (Nat × AV)} : buildSliceA P t n parts =
    tsOf (tsize P (telem P t)) n (fill0 (fun i => some (i * tsize P (telem P t), tsize P (telem P t))) parts ((tzero P (telem P t)).map (repl n))) := by
  unfold buildSliceA
  dsimp only
  cases hz : tzero P (telem P t) with
  | none => rfl
  | some z => simp only [Option.map_some, fill0]; cases fillA _ (repl n z) parts <;> rfl
@[go_sem] theorem repl_zero {z : List C} : repl 0 z = [] := rfl
@[go_sem] theorem repl_one {n : Nat} {z : List C} : repl (n + 1) z = z ++ repl n z := repl_succ n z
@[go_sem] theorem chunk_zero {sz : Nat} {l : List T} : chunk sz 0 l = [] := rfl
@[go_sem] theorem chunk_succ {sz n : Nat} {l : List T} : chunk sz (n + 1) l = l.take sz :: chunk sz n (l.drop sz) := rfl
@[go_sem] theorem aggOk_agg {n : Nat} {cs : List C} : aggOk n (.agg cs) = (n ≤ cs.length) := rfl
@[go_sem] theorem aggCells_agg {cs : List C} : aggCells (.agg cs) = cs := rfl
attribute [go_sem] setCs divides capsOf

end
end Go.Abs
namespace Go.Abs
open Go
section
variable {P : Program} {σ : St} {t : TV}
@[go_sem] theorem retQ_ret1 {r : ResultVar} : retQ P [r] t .ret σ = (resOk P σ r ∧ FzA σ.H (resA P σ r) t) := by simp [retQ, retA]
@[go_sem] theorem retQ_norm1 {r : ResultVar} : retQ P [r] t .normal σ = (resOk P σ r ∧ FzA σ.H (resA P σ r) t) := by simp [retQ, retA]
@[go_sem] theorem retQ_ret0 : retQ P [] t .ret σ = FzA σ.H (.tup []) t := by simp [retQ, retA]
@[go_sem] theorem retQ_norm0 : retQ P [] t .normal σ = FzA σ.H (.tup []) t := by simp [retQ, retA]
@[go_sem] theorem retQ_ret2 {r r' : ResultVar} : retQ P [r, r'] t .ret σ = ((resOk P σ r ∧ resOk P σ r') ∧ FzA σ.H (.tup [resA P σ r, resA P σ r']) t) := by simp [retQ, retA]
@[go_sem] theorem retQ_norm2 {r r' : ResultVar} : retQ P [r, r'] t .normal σ = ((resOk P σ r ∧ resOk P σ r') ∧ FzA σ.H (.tup [resA P σ r, resA P σ r']) t) := by simp [retQ, retA]
@[go_sem] theorem retQ_ret3 {r r' r'' : ResultVar} : retQ P [r, r', r''] t .ret σ = ((resOk P σ r ∧ resOk P σ r' ∧ resOk P σ r'') ∧ FzA σ.H (.tup [resA P σ r, resA P σ r', resA P σ r'']) t) := by simp [retQ, retA]
@[go_sem] theorem resOk_tmp {n : Nat} : resOk P σ (.tmp n) = True := rfl
@[go_sem] theorem resOk_cell {a : Nat} {ty : TypeId} : resOk P σ (.cell a ty) = (tok P ty = true ∧ (cellsAt σ.H (σ.s a)).isSome = true ∧ (if tagg P ty then tsize P ty else 1) ≤ ((cellsAt σ.H (σ.s a)).getD []).length) := rfl
@[go_sem] theorem resA_tmp {n : Nat} : resA P σ (.tmp n) = σ.s n := rfl
@[go_sem] theorem resA_cell {a : Nat} {ty : TypeId} : resA P σ (.cell a ty) = (if tagg P ty then .agg (((cellsAt σ.H (σ.s a)).getD []).take (tsize P ty)) else .one (((cellsAt σ.H (σ.s a)).getD []).headD default)) := rfl

/-- What is a tree already stays. -/
theorem fz_emb {H : Heap} : ∀ (t : TV), FzA H (emb t) t
  | .one x => .one .t
  | .agg xs => .agg (by simp) fun j h h' => by simp only [List.getElem_map]; exact .t
  | .ip _ => .ip
  | .tup xs => .tup (by rw [emb_size_aux]) fun j h h' => by rw [embs_get xs j h h']; exact fz_emb _
decreasing_by have := List.sizeOf_lt_of_mem (List.getElem_mem h'); simp only [TV.tup.sizeOf_spec]; omega
theorem fz_of {H : Heap} {x : AV} (h : x = emb t) : FzA H x t := h ▸ fz_emb t
@[go_sem] theorem fz_bool {H : Heap} {b b' : Bool} : FzA H (litB b) (.one (.lit (.bool b'))) = (b = b') := by
  refine propext ⟨fun h => ?_, fun h => h ▸ fz_emb (.one (.lit (.bool b)))⟩
  cases h with | one h => cases h; rfl
@[go_sem] theorem fz_int {H : Heap} {k : IntKind} {n n' : Int} : FzA H (litI k n) (.one (.lit (.int k n'))) = (n = n') := by
  refine propext ⟨fun h => ?_, fun h => h ▸ fz_emb (.one (.lit (.int k n)))⟩
  cases h with | one h => cases h; rfl
end
theorem fz_lit {H : Heap} {v v' : Value} (h : v = v') : FzA H (.one (.t (.lit v))) (.one (.lit v')) := h ▸ fz_emb (.one (.lit v))
@[go_sem] theorem beqT (b : Bool) : (b == true) = b := by cases b <;> rfl
@[go_sem] theorem beqF (b : Bool) : (b == false) = !b := by cases b <;> rfl
attribute [go_sem] List.map_cons List.map_nil List.getD_cons_zero List.getD_cons_succ List.getD_nil Option.isSome_some Option.getD_some Option.map_some Option.map_none Option.bind_some true_and and_true and_self if_true if_false
  List.drop_zero List.drop_succ_cons List.drop_nil List.take_succ_cons List.take_zero List.headD_cons List.length_cons List.length_nil decide_true decide_false List.cons_append List.nil_append List.append_nil List.length_map
  Bool.not_true Bool.not_false decide_eq_true_eq implies_true false_implies List.append_assoc Bool.false_eq_true Option.some.injEq Bool.true_eq_false Nat.add_zero Nat.zero_add Nat.zero_mul Nat.mul_one
attribute [go_sem] emb emb.embs Bool.true_beq Bool.false_beq Bool.not_not Bool.and_true Bool.and_false Bool.true_and Bool.false_and
end Go.Abs
namespace Go.Abs
open Go

/-! ### Letting go of what is not needed any more -/
theorem GStep.refl (σ : St) : GStep σ σ := fun ρ ok _ w h => ⟨ρ, ok, h, Goes.refl ρ ok w⟩
theorem GStep.trans {σ σ₁ σ₂ : St} (h : GStep σ σ₁) (h' : GStep σ₁ σ₂) : GStep σ σ₂ := fun ρ ok a w hs => by
  obtain ⟨ρ₁, ok₁, s₁, g₁⟩ := h ρ ok a w hs
  obtain ⟨ρ₂, ok₂, s₂, g₂⟩ := h' ρ₁ ok₁ a w s₁
  exact ⟨ρ₂, ok₂, s₂, g₁.trans g₂⟩

/-- A region may begin with letting go. -/
theorem regA_g {P : Program} {ops : Array Oper} {Q : St → Prop} {σ σ' : St} (hg : GStep σ σ') (h : RegA P ops Q σ') : RegA P ops Q σ := by
  rcases h with h | h
  · obtain ⟨m, bl, σ1, h0, h1, h2, h3⟩ := h
    exact .inl ⟨m, bl, σ1, hg.trans h0, h1, h2, h3⟩
  · exact .inr (h.weaken hg)
def refsC (D : List Nat) : C → Bool
  | .t _ => true
  | .ptr b _ => D.contains b
  | .vec b _ _ _ => D.contains b
  | .fn _ caps => caps.all fun p => D.contains p.1
def refsA (D : List Nat) : AV → Bool
  | .one c => refsC D c
  | .agg cs => cs.all (refsC D)
  | .iptr _ => true
  | .tup [] => true
  | .tup _ => false
  | .junk => true

theorem RC.keep {w : World} {ok : Nat → Prop} {ρ : Nat → Option Nat} {D : List Nat} {c : C} {v : Value} (h : RC w ok ρ c v) (hr : refsC D c = true) : RC w ok (fun b => if b ∈ D then ρ b else none) c v := by
  cases h with
  | t h => exact .t h
  | ptr h => simp only [refsC, List.contains_iff_mem] at hr; exact .ptr (by rw [if_pos hr]; exact h)
  | vec h h1 h2 h3 => simp only [refsC, List.contains_iff_mem] at hr; exact .vec (by rw [if_pos hr]; exact h) h1 h2 h3
  | fn h h1 =>
    refine .fn h fun i hi hi' => ?_
    obtain ⟨c, h2, h3⟩ := h1 i hi hi'
    simp only [refsC, List.all_eq_true, List.contains_iff_mem] at hr
    exact ⟨c, by rw [if_pos (hr _ (List.getElem_mem hi))]; exact h2, h3⟩

theorem RA.keep {w : World} {ok : Nat → Prop} {ρ : Nat → Option Nat} {D : List Nat} {x : AV} {v : Value} (h : RA w ok ρ x v) (hr : refsA D x = true) : RA w ok (fun b => if b ∈ D then ρ b else none) x v := by
  cases h with
  | one h => exact .one (h.keep hr)
  | agg h h1 =>
    simp only [refsA, List.all_eq_true] at hr
    exact .agg h fun j hj hj' => (h1 j hj hj').keep (hr _ (List.getElem_mem hj))
  | iptr h1 h2 h3 => exact .iptr h1 h2 h3
  | @tup xs vs h h1 =>
    cases xs with
    | nil => exact .tup h fun j hj => by simp at hj
    | cons _ _ => simp [refsA] at hr
  | junk => exact .junk

def lookS : List (Nat × AV) → Nat → AV
  | [], _ => .junk
  | (k, v) :: l, t => if t = k then v else lookS l t
def lookH : List (Nat × List C) → Nat → Option (List C)
  | [], _ => none
  | (k, v) :: l, t => if t = k then some v else lookH l t
/-- A state told by lists. -/
def stL (n : Nat) (l : List (Nat × AV)) (h : List (Nat × List C)) : St := ⟨n, lookS l, lookH h⟩
@[go_sem] theorem stL_n {n : Nat} {l : List (Nat × AV)} {h : List (Nat × List C)} : (stL n l h).n = n := rfl
@[go_sem] theorem stL_s {n t : Nat} {l : List (Nat × AV)} {h : List (Nat × List C)} : (stL n l h).s t = lookS l t := rfl
@[go_sem] theorem stL_H {n : Nat} {l : List (Nat × AV)} {h : List (Nat × List C)} : (stL n l h).H = lookH h := rfl
@[go_sem] theorem lookS_nil {t : Nat} : lookS [] t = .junk := rfl
@[go_sem] theorem lookS_cons {k t : Nat} {v : AV} {l : List (Nat × AV)} : lookS ((k, v) :: l) t = if t = k then v else lookS l t := rfl
@[go_sem] theorem lookH_nil {t : Nat} : lookH [] t = none := rfl
@[go_sem] theorem lookH_cons {k t : Nat} {v : List C} {l : List (Nat × List C)} : lookH ((k, v) :: l) t = if t = k then some v else lookH l t := rfl

def AllS (σ : St) : List (Nat × AV) → Prop
  | [] => True
  | (k, v) :: l => (σ.s k = v ∨ v = .junk) ∧ AllS σ l
def AllH (σ : St) : List (Nat × List C) → Prop
  | [] => True
  | (k, v) :: l => σ.H k = some v ∧ AllH σ l
def refsS (D : List Nat) : List (Nat × AV) → Bool
  | [] => true
  | (_, v) :: l => refsA D v && refsS D l
def refsH (D : List Nat) : List (Nat × List C) → Bool
  | [] => true
  | (_, v) :: l => v.all (refsC D) && refsH D l

theorem AllS.look {σ : St} : ∀ {l : List (Nat × AV)}, AllS σ l → ∀ t, lookS l t = .junk ∨ lookS l t = σ.s t
  | [], _, t => .inl rfl
  | (k, v) :: l, h, t => by
    unfold lookS
    split
    · rename_i e; subst e
      rcases h.1 with h1 | h1
      · exact .inr h1.symm
      · exact .inl h1
    · exact AllS.look h.2 t
theorem AllH.look {σ : St} : ∀ {l : List (Nat × List C)}, AllH σ l → ∀ b cs, lookH l b = some cs → σ.H b = some cs ∧ b ∈ l.map (·.1)
  | [], _, t => fun cs h => by cases h
  | (k, v) :: l, h, t => fun cs hl => by
    unfold lookH at hl
    split at hl
    · rename_i e; subst e; cases hl; exact ⟨h.1, by simp⟩
    · have := AllH.look h.2 t cs hl; exact ⟨this.1, by simp [this.2]⟩
theorem refsS_look {D : List Nat} : ∀ {l : List (Nat × AV)}, refsS D l = true → ∀ t, refsA D (lookS l t) = true
  | [], _, _ => rfl
  | (k, v) :: l, h, t => by
    simp only [refsS, Bool.and_eq_true] at h
    unfold lookS
    split
    · exact h.1
    · exact refsS_look h.2 t
theorem refsH_look {D : List Nat} : ∀ {l : List (Nat × List C)}, refsH D l = true → ∀ b cs, lookH l b = some cs → ∀ c ∈ cs, refsC D c = true
  | [], _, _ => fun cs h => by cases h
  | (k, v) :: l, h, t => fun cs hl => by
    simp only [refsH, Bool.and_eq_true, List.all_eq_true] at h
    unfold lookH at hl
    split at hl
    · cases hl; exact h.1
    · exact refsH_look h.2 t cs hl
theorem lookH_mem : ∀ {l : List (Nat × List C)} {b : Nat}, b ∈ l.map (·.1) → ∃ cs, lookH l b = some cs
  | (k, v) :: l, b, h => by
    unfold lookH
    split
    · exact ⟨v, rfl⟩
    · rename_i hne
      simp only [List.map_cons, List.mem_cons] at h
      rcases h with h | h
      · exact absurd h hne
      · exact lookH_mem h

/-- Any state may be told by lists, where these hold what it has; what they do not hold is let go. -/
theorem gstep_list {σ : St} {n : Nat} {l : List (Nat × AV)} {h : List (Nat × List C)} (hn : σ.n = n) (hs : AllS σ l) (hh : AllH σ h) (hr : refsS (h.map (·.1)) l = true) (hr' : refsH (h.map (·.1)) h = true) : GStep σ (stL n l h) := by
  intro ρ ok a w s
  refine ⟨fun b => if b ∈ h.map (·.1) then ρ b else none, ok, ⟨⟨fun b cs hb => ?_, fun b hb => ?_, fun b b' c h1 h2 => ?_, fun n hn => ⟨(s.okR n hn).1, fun b hb => ?_⟩⟩, by rw [s.size]; exact hn, fun t => ?_, s.defers, by have := s.small; rw [hn] at this; exact this⟩, ⟨Nat.le_refl _, fun _ _ _ => rfl, fun _ _ _ h => h, fun b n hb => ?_, fun _ h => h, fun _ h => .inl h, fun b _ => by show (if _ then _ else _) = _ ∨ (if _ then _ else _) = _; split <;> simp, ⟨rfl, rfl⟩⟩⟩
  · obtain ⟨k1, k2⟩ := hh.look b cs hb
    obtain ⟨c, arr, el, h1, h2, h3, h4⟩ := s.heap b cs k1
    refine ⟨c, arr, el, by simp only [k2, if_true]; exact h1, h2, h3, fun j hj hj' => (h4 j hj hj').keep (refsH_look hr' b cs hb _ (List.getElem_mem hj))⟩
  · split
    · rename_i hm
      obtain ⟨cs, hcs⟩ := lookH_mem hm
      have hb' : lookH h b = none := hb
      rw [hcs] at hb'; cases hb'
    · rfl
  · split at h1
    · split at h2
      · exact s.inj b b' c h1 h2
      · cases h2
    · cases h1
  · split at hb
    · exact (s.okR n hn).2 b hb
    · cases hb
  · rcases hs.look t with h1 | h1
    · rw [stL_s, h1]; exact .junk
    · have := s.slots t
      have hk := refsS_look hr t
      rw [stL_s, h1] at *
      exact this.keep hk
  · split at hb
    · exact .inl ⟨b, hb⟩
    · cases hb

@[go_sem] theorem refsC_t {D : List Nat} {x : T} : refsC D (.t x) = true := rfl
@[go_sem] theorem refsC_ptr {D : List Nat} {b o : Nat} : refsC D (.ptr b o) = D.contains b := rfl
@[go_sem] theorem refsC_vec {D : List Nat} {b s o n : Nat} : refsC D (.vec b s o n) = D.contains b := rfl
@[go_sem] theorem refsC_fn {D : List Nat} {f : FuncId} {caps : List (Nat × Nat)} : refsC D (.fn f caps) = caps.all fun p => D.contains p.1 := rfl
@[go_sem] theorem refsA_one {D : List Nat} {c : C} : refsA D (.one c) = refsC D c := rfl
@[go_sem] theorem refsA_agg {D : List Nat} {cs : List C} : refsA D (.agg cs) = cs.all (refsC D) := rfl
@[go_sem] theorem refsA_iptr {D : List Nat} {cs : List T} : refsA D (.iptr cs) = true := rfl
@[go_sem] theorem refsA_tup0 {D : List Nat} : refsA D (.tup []) = true := rfl
@[go_sem] theorem refsA_undef {D : List Nat} : refsA D undefA = true := rfl
@[go_sem] theorem refsA_junk {D : List Nat} : refsA D .junk = true := rfl
@[go_sem] theorem refsA_litI {D : List Nat} {k : IntKind} {n : Int} : refsA D (litI k n) = true := rfl
@[go_sem] theorem refsA_litB {D : List Nat} {b : Bool} : refsA D (litB b) = true := rfl
attribute [go_sem] AllS AllH refsS refsH List.contains_cons List.contains_nil List.all_cons List.all_nil Bool.or_false Bool.or_true Bool.true_or Bool.false_or

/-! ### Loops -/
theorem seqQ_mono {K K' : St → Prop} {Q Q' : Exit → St → Prop} (hK : ∀ σ, K σ → K' σ) (hQ : ∀ e σ, Q e σ → Q' e σ) : ∀ e σ, seqQ K Q e σ → seqQ K' Q' e σ := by
  intro e σ h; cases e <;> first | exact hK _ h | exact hQ _ _ h

theorem CallA.mono {P : Program} {m : Nat} {f : FuncId} {as : List AV} {σ : St} {K K' : AV → St → Prop} (hK : ∀ v σ, K v σ → K' v σ) (h : CallA P m f as σ K) : CallA P m f as σ K' := by
  rw [CallA_iff] at h ⊢
  obtain ⟨v, τ, h1, h2⟩ := h
  exact ⟨v, τ, h1, hK _ _ h2⟩

theorem runOps_mono {P : Program} {m : Nat} {ops : Array Oper} {q q' : St → Prop} (hq : ∀ σ, q σ → q' σ) : ∀ (l : List Oper) (σ : St), runOps P m ops.toList q l σ → runOps P m ops.toList q' l σ := by
  intro l
  induction l with
  | nil => intro σ h; exact hq σ h
  | cons o l ih =>
    intro σ h
    rw [runOps_cons] at h ⊢
    obtain ⟨σ', h1, h2⟩ := h
    exact ⟨σ', h1, ih σ' h2⟩

theorem wpA_mono {P : Program} : ∀ (c : Code) (Q Q' : Exit → St → Prop), (∀ e σ, Q e σ → Q' e σ) → ∀ σ, wpA P c Q σ → wpA P c Q' σ := by
  intro c
  induction c with
  | skip => intro Q Q' hq σ h; exact hq _ _ h
  | region id ops draw =>
    intro Q Q' hq σ h
    simp only [wpA] at h ⊢
    split at h
    · rename_i hd; rw [if_pos hd]
      rcases h with h | h
      · obtain ⟨m, bl, σ', h0, h1, hg, h2⟩ := h
        exact .inl ⟨m, bl, σ', h0, h1, hg, runOps_mono (hq _) _ _ h2⟩
      · exact .inr (h.mono (hq _))
    · rename_i hd; rw [if_neg hd]; exact runOps_mono (hq _) _ _ h
  | seq x y ihx ihy => intro Q Q' hq σ h; exact ihx _ _ (seqQ_mono (fun σ => ihy _ _ hq σ) hq) σ h
  | cond c x y ihx ihy =>
    intro Q Q' hq σ h
    simp only [wpA, BR] at h ⊢
    split at h
    · exact ihx _ _ hq σ h
    · exact ihy _ _ hq σ h
    · exact h.elim
  | block id c ih =>
    intro Q Q' hq σ h
    refine ih _ _ ?_ σ h
    intro e σ h
    cases e <;> simp only [blockQ] at h ⊢ <;> first | exact hq _ _ h | (split at h <;> rename_i hi <;> first | (rw [if_pos hi]; exact hq _ _ h) | (rw [if_neg hi]; exact hq _ _ h))
  | loop c ih =>
    intro Q Q' hq σ h
    obtain ⟨k, h⟩ := h
    refine ⟨k, ?_⟩
    induction k generalizing σ with
    | zero => exact h.elim
    | succ k ihk =>
      obtain ⟨σ', h1, h2⟩ := h
      exact ⟨σ', h1, ih _ _ (seqQ_mono (fun σ => ihk σ) hq) σ' h2⟩
  | exit id => intro Q Q' hq σ h; exact hq _ _ h
  | ret => intro Q Q' hq σ h; exact hq _ _ h
  | _ => intro Q Q' hq σ h; exact h

theorem LoopN_up {P : Program} {c : Code} {Q : Exit → St → Prop} : ∀ (k : Nat) (σ : St), LoopN (wpA P c) Q k σ → LoopN (wpA P c) Q (k + 1) σ
  | 0, _, h => h.elim
  | k + 1, _, ⟨σ', h1, h2⟩ => ⟨σ', h1, wpA_mono c _ _ (seqQ_mono (LoopN_up k) fun _ _ h => h) σ' h2⟩
theorem LoopN_le {P : Program} {c : Code} {Q : Exit → St → Prop} {k k' : Nat} (hk : k ≤ k') {σ : St} (h : LoopN (wpA P c) Q k σ) : LoopN (wpA P c) Q k' σ := by
  obtain ⟨d, rfl⟩ := Nat.exists_eq_add_of_le hk
  induction d with
  | zero => exact h
  | succ d ih => exact LoopN_up _ _ (ih (Nat.le_add_right _ _))
theorem LoopN_g {B : (Exit → St → Prop) → St → Prop} {Q : Exit → St → Prop} {k : Nat} {σ σ' : St} (hg : GStep σ σ') (h : LoopN B Q k σ') : LoopN B Q k σ := by
  cases k with
  | zero => exact h.elim
  | succ k => obtain ⟨σ₁, h1, h2⟩ := h; exact ⟨σ₁, hg.trans h1, h2⟩

/-- The next round's state: one of the family, with a less measure. -/
def Again {ι : Type} (I : ι → Prop) (μ : ι → Nat) (f : ι → St) (x : ι) (s : St) : Prop := ∃ y, I y ∧ μ y < μ x ∧ GStep s (f y)

theorem loop_inv {P : Program} {c : Code} {Q : Exit → St → Prop} {σ : St} {ι : Type} (f : ι → St) (I : ι → Prop) (μ : ι → Nat) (x₀ : ι) (h₀ : GStep σ (f x₀)) (hI : I x₀)
    (step : ∀ x, I x → wpA P c (seqQ (Again I μ f x) Q) (f x)) : LoopA (wpA P c) Q σ := by
  have key : ∀ (n : Nat) (x : ι), μ x = n → I x → LoopN (wpA P c) Q (n + 1) (f x) := by
    intro n
    induction n using Nat.strongRecOn with
    | _ n ih =>
      intro x hx hIx
      refine ⟨f x, GStep.refl _, wpA_mono c _ _ (seqQ_mono (fun s => ?_) fun _ _ h => h) _ (step x hIx)⟩
      rintro ⟨y, hIy, hlt, hg⟩
      exact LoopN_g hg (LoopN_le (by omega) (ih (μ y) (by omega) y rfl hIy))
  exact ⟨_, LoopN_g h₀ (key _ x₀ rfl hI)⟩

end Go.Abs
