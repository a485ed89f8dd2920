/- At every input the call answers true and leaves its arguments as they were; no conditions. -/
import Derived.Test.YtgnfgaioeldagaaGreatMc
set_option linter.unusedSimpArgs false
set_option linter.unusedVariables false
namespace Go.Abs
open Go

/-! ### Regions of which the walk tells the orders itself; code in two parts -/
section
variable {P : Program}

theorem AnyS.done {ops : Array Oper} {q : St → Prop} {fuel : Nat} {listed : Array Bool} {σ : St} (hr : Region.ready .any ops listed = []) (hq : q σ) : AnyS P ops q fuel listed σ :=
  fun ρ ok a w h _ _ hn => wpAny_done hr (hn σ ρ ok a w hq h (Goes.refl _ _ _)) fuel

/-- One operation, then the others. -/
def StepS (P : Program) (ops : Array Oper) (q : St → Prop) (fuel : Nat) (listed : Array Bool) (σ : St) (i : Nat) (o : Oper) : Prop :=
  dstOk σ.n o.dst = true ∧ BR (wantedA ops.toList σ o.guard) (stepA P 2 o σ fun v σ' => AnyS P ops q fuel (listed.setIfInBounds i true) (σ'.putO o.dst v)) (AnyS P ops q fuel (listed.setIfInBounds i true) (σ.putO o.dst undefA))

theorem AnyS.all {ops : Array Oper} {q : St → Prop} {fuel : Nat} {listed : Array Bool} {σ : St} (rs : List Nat) (hr : Region.ready .any ops listed = rs) (hne : rs ≠ [])
    (h : ∀ i ∈ rs, ∃ o, ops[i]? = some o ∧ StepS P ops q fuel listed σ i o) : AnyS P ops q (fuel + 1) listed σ := by
  intro ρ ok a w hs Q' hp hn
  refine wpAny_all hr hne fun i hi => ?_
  obtain ⟨o, ho, hd, hb⟩ := h i hi
  unfold wpOp
  simp only [ho]
  unfold BR at hb
  split at hb
  · rename_i hw
    rw [if_pos (wanted_spec hs hw)]
    refine .inl (Oper.wp_mono ?_ (step_sound hs hd hb))
    rintro a' w' ⟨x, v, τ, ρ', ok', hk, rfl, hx, hsr, hg, hnn⟩
    exact hk ρ' ok' _ w' (hsr.putA (by rw [hnn]; exact hd) hx) Q' hp (fun σ'' ρ'' ok'' a'' w'' q1 s1 g1 => hn σ'' ρ'' ok'' a'' w'' q1 s1 (hg.trans g1))
  · rename_i hw
    rw [if_neg (by rw [wanted_spec hs hw]; simp)]
    exact hb ρ ok _ w (hs.undefA hd) Q' hp hn
  · exact hb.elim

theorem AnyS.one {ops : Array Oper} {q : St → Prop} {fuel : Nat} {listed : Array Bool} {σ : St} (i : Nat) (o : Oper) (hr : Region.ready .any ops listed = [i]) (ho : ops[i]? = some o) (h : StepS P ops q fuel listed σ i o) : AnyS P ops q (fuel + 1) listed σ :=
  .all [i] hr (by simp) fun j hj => by rw [List.mem_singleton.1 hj]; exact ⟨o, ho, h⟩
theorem AnyS.two {ops : Array Oper} {q : St → Prop} {fuel : Nat} {listed : Array Bool} {σ : St} (i j : Nat) (o o' : Oper) (hr : Region.ready .any ops listed = [i, j]) (ho : ops[i]? = some o) (ho' : ops[j]? = some o') (h : StepS P ops q fuel listed σ i o) (h' : StepS P ops q fuel listed σ j o') : AnyS P ops q (fuel + 1) listed σ :=
  .all [i, j] hr (by simp) fun k hk => by
    rcases List.mem_cons.1 hk with rfl | hk
    · exact ⟨o, ho, h⟩
    · rw [List.mem_singleton.1 hk]; exact ⟨o', ho', h'⟩

/-- What an operation tells in any world. -/
def PureAt (P : Program) (o : Oper) (σ : St) (v : AV) : Prop := ∀ ρ ok a w, SR ρ ok σ a w → ∃ u, (∀ w', (execOp a.eval o).run P w' = .ok (.value u) w') ∧ RA w ok ρ v u

theorem AnyS.take {ops : Array Oper} {q : St → Prop} {fuel : Nat} {listed : Array Bool} {σ : St} (i : Nat) {o : Oper} {v : AV} (hi : ops[i]? = some o) (hs : Region.noSelect ops = true) (hf : Region.free .any ops listed i = true) (hr : (Region.ready .any ops listed).contains i = true)
    (hg : o.guard = none) (hd : dstOk σ.n o.dst = true) (hy : PureAt P o σ v) (h : AnyS P ops q fuel (listed.setIfInBounds i true) (σ.putO o.dst v)) : AnyS P ops q (fuel + 1) listed σ := by
  intro ρ ok a w hs' Q' hp hn
  obtain ⟨u, hu, hra⟩ := hy ρ ok a w hs'
  exact wpAny_take hi hs hf hr (fun c a w h => absurd h (hp c _ w)) (.inl ⟨by unfold Region.wanted; rw [hg], hu⟩) (h ρ ok _ w (hs'.putA hd hra) Q' hp hn)

theorem AnyS.take' {ops : Array Oper} {q : St → Prop} {fuel : Nat} {listed : Array Bool} {σ : St} (i : Nat) {d : Nat} {op : Op} {ty : TypeId} {pos : String} {af : Array Edge} {v : AV} (hi : ops[i]? = some ⟨some d, op, ty, pos, af, none⟩) (hs : Region.noSelect ops = true) (hf : Region.free .any ops listed i = true) (hr : (Region.ready .any ops listed).contains i = true)
    (hd : d < σ.n) (hy : PureAt P ⟨some d, op, ty, pos, af, none⟩ σ v) (h : AnyS P ops q fuel (listed.setIfInBounds i true) (σ.put d v)) : AnyS P ops q (fuel + 1) listed σ :=
  AnyS.take i hi hs hf hr rfl (by simpa [dstOk] using hd) hy h
theorem AnyS.one' {ops : Array Oper} {q : St → Prop} {fuel : Nat} {listed : Array Bool} {σ : St} (i : Nat) {d : Option Nat} {op : Op} {ty : TypeId} {pos : String} {af : Array Edge} (hr : Region.ready .any ops listed = [i]) (ho : ops[i]? = some ⟨d, op, ty, pos, af, none⟩)
    (hd : dstOk σ.n d = true) (h : stepA P 2 ⟨d, op, ty, pos, af, none⟩ σ fun v σ' => AnyS P ops q fuel (listed.setIfInBounds i true) (σ'.putO d v)) : AnyS P ops q (fuel + 1) listed σ :=
  AnyS.one i _ hr ho ⟨hd, h⟩
theorem AnyS.two' {ops : Array Oper} {q : St → Prop} {fuel : Nat} {listed : Array Bool} {σ : St} (i j : Nat) {d d' : Option Nat} {op op' : Op} {ty ty' : TypeId} {pos pos' : String} {af af' : Array Edge} (hr : Region.ready .any ops listed = [i, j]) (ho : ops[i]? = some ⟨d, op, ty, pos, af, none⟩) (ho' : ops[j]? = some ⟨d', op', ty', pos', af', none⟩)
    (hd : dstOk σ.n d = true) (hd' : dstOk σ.n d' = true) (h : stepA P 2 ⟨d, op, ty, pos, af, none⟩ σ fun v σ' => AnyS P ops q fuel (listed.setIfInBounds i true) (σ'.putO d v))
    (h' : stepA P 2 ⟨d', op', ty', pos', af', none⟩ σ fun v σ' => AnyS P ops q fuel (listed.setIfInBounds j true) (σ'.putO d' v)) : AnyS P ops q (fuel + 1) listed σ :=
  AnyS.two i j _ _ hr ho ho' ⟨hd, h⟩ ⟨hd', h'⟩
theorem pureAt_move {o : Oper} {σ : St} {x : Operand} (ho : o.op = .move x) : PureAt P o σ (ev σ.s x) := fun ρ ok a w h =>
  ⟨a.eval x, fun w' => (by simp only [execOp, ho]; rfl), RA_ev h x⟩

theorem sliceBounds_any {ρ : Nat → Option Nat} {ok : Nat → Prop} {σ : St} {a : Act} {w : World} {n c l hh : Nat} {lo hi : Option Operand} (h : SR ρ ok σ a w) (hl : optNat 0 (lo.map (ev σ.s)) = some l) (hhi : optNat n (hi.map (ev σ.s)) = some hh) (h1 : l ≤ hh) (h2 : hh ≤ n) (h3 : n ≤ c) (w' : World) :
    (Instr.sliceBounds true n c (lo.map a.eval) (hi.map a.eval) none).run P w' = .ok (l, hh, c) w' := by
  unfold Instr.sliceBounds
  rcases optNat_spec h hl with ⟨rfl, rfl⟩ | ⟨y, k, rfl, hy⟩ <;> rcases optNat_spec h hhi with ⟨rfl, rfl⟩ | ⟨y', k', rfl, hy'⟩ <;>
    simp [Sem.run_pure, Instr.sliceBound, asIntOf, show hh ≤ c from by omega, *]

theorem slice_val {ρ : Nat → Option Nat} {ok : Nat → Prop} {σ : St} {a : Act} {w : World} (h : SR ρ ok σ a w) {t : TypeId} {x : Operand} {lo hi : Option Operand}
    (h4 : sliceOk (tsize P (telem P t)) (ev σ.s x)) {n l hh : Nat} (hn : (ev σ.s x).lenOf = some n) (hl : optNat 0 (lo.map (ev σ.s)) = some l) (hhi : optNat n (hi.map (ev σ.s)) = some hh) (h5 : l ≤ hh) (h6 : hh ≤ n)
    (h7 : match ev σ.s x with | .one (.vec _ _ _ _) => l = 0 ∨ l < hh | _ => True) :
    ∃ A c, a.eval x = .slice A n c ∧ n ≤ c ∧ RA w ok ρ (sliceV (tsize P (telem P t)) (ev σ.s x) l hh) (.slice (if c = l then A else A.map (·.add (l * tsize P (telem P t)))) (hh - l) (c - l)) := by
  have hax := RA_ev h x
  generalize a.eval x = vx at *
  generalize ev σ.s x = ax at *
  unfold AV.lenOf at hn
  split at hn
  · rename_i nl xs
    cases hn
    obtain ⟨A, c, sz, blk, off, u, rfl, g2, g0, g3, g4, g5, g6, g7, g8⟩ := hax.seq_inv2
    refine ⟨A, c, rfl, g2, ?_⟩
    have hlen : ((xs.take hh).drop l).length = hh - l := by simp; omega
    refine .one (.t (.seq (sz := sz) (blk := blk) (off := off + l * sz) (u := fun i j => u (l + i) j) hlen.symm (by omega) (fun e => by
      have hA : A = none := by
        split at e
        · exact e
        · simpa using e
      have := g0 hA; omega) (fun e => by rw [g3 e]; split <;> rfl) (fun e => ?_) (fun y hy => g5 y (List.mem_of_mem_take (List.mem_of_mem_drop hy))) (fun hne => ?_) (fun i hi j hj => ?_) (fun i hi j hj => ?_)))
    · split
      · exact g4 e
      · intro e2; simp at e2; exact g4 e e2
    · have hpos : 0 < hh - l := by rw [← hlen]; exact List.length_pos_iff.2 hne
      have hxs : xs ≠ [] := by intro e; subst e; simp at hlen; omega
      obtain ⟨k1, k2⟩ := g6 hxs
      refine ⟨?_, k2⟩
      have hszz : sz = tsize P (telem P t) := by
        cases xs with
        | nil => exact absurd rfl hxs
        | cons y ys => rw [← g5 y (by simp), ← h4 y (by simp)]
      rw [if_neg (by omega), k1, ← hszz]
      simp [add_none]
    · rw [hlen] at hi
      have hi2 : l + i < xs.length := by omega
      have e : ((xs.take hh).drop l)[i]'(by rw [hlen]; exact hi) = xs[l + i] := by simp
      rw [e] at hj
      have := g7 (l + i) hi2 j hj
      rw [show off + l * sz + (i * sz + j) = off + ((l + i) * sz + j) by rw [Nat.add_mul]; omega]
      exact this
    · rw [hlen] at hi
      have hi2 : l + i < xs.length := by omega
      have e : ((xs.take hh).drop l)[i]'(by rw [hlen]; exact hi) = xs[l + i] := by simp
      have hj2 : j < xs[l + i].length := by rw [← e]; exact hj
      have := g8 (l + i) hi2 j hj2
      simpa [e] using this
  · rename_i b s off m
    cases hn
    obtain ⟨c, cap, n0, k1, rfl, k2, k3, k4⟩ := hax.vec_inv
    refine ⟨some ⟨c, off, none⟩, cap, rfl, k2, ?_⟩
    have hs : s = tsize P (telem P t) := h4
    subst hs
    have e : (if cap = l then some (⟨c, off, none⟩ : Addr) else (some (⟨c, off, none⟩ : Addr)).map (·.add (l * tsize P (telem P t)))) = some ⟨c, off + l * tsize P (telem P t), none⟩ := by
      split
      · rename_i e
        have hl0 : l = 0 := by rcases h7 with h7 | h7; · exact h7
                               · omega
        subst hl0; simp
      · simp [add_none]
    rw [e]
    refine .one (.vec k1 (by omega) k3 ?_)
    have : (cap - l) * tsize P (telem P t) + l * tsize P (telem P t) ≤ cap * tsize P (telem P t) := by
      rw [← Nat.add_mul]; exact Nat.mul_le_mul_right _ (by omega)
    omega
  · exact h4.elim
  · cases hn

theorem pureAt_slice {o : Oper} {σ : St} {t : TypeId} {x : Operand} {lo hi : Option Operand} (ho : o.op = .slice t x lo hi none) (h1 : tok P t = true) (h2 : isSliceD (tdesc P t) = true) (h3 : tok P (telem P t) = true)
    (h4 : sliceOk (tsize P (telem P t)) (ev σ.s x)) {n l hh : Nat} (hn : (ev σ.s x).lenOf = some n) (hl : optNat 0 (lo.map (ev σ.s)) = some l) (hhi : optNat n (hi.map (ev σ.s)) = some hh) (h5 : l ≤ hh) (h6 : hh ≤ n)
    (h7 : match ev σ.s x with | .one (.vec _ _ _ _) => l = 0 ∨ l < hh | _ => True) :
    PureAt P o σ (sliceV (tsize P (telem P t)) (ev σ.s x) l hh) := by
  intro ρ ok a w h
  obtain ⟨A, c, e1, e2, e3⟩ := slice_val (P := P) (t := t) h h4 hn hl hhi h5 h6 h7
  refine ⟨_, fun w' => ?_, e3⟩
  simp only [execOp, ho, e1]
  refine v_run ?_
  unfold Instr.sliceAt
  rw [Sem.run_bind, run_underlying h1, slice_of h2]
  simp only [Result.andThen]
  unfold Instr.slice
  rw [Sem.run_bind, run_underlying h1, slice_of h2]
  simp only [Result.andThen, Option.map_none]
  rw [Sem.run_bind, sliceBounds_any h hl hhi h5 h6 e2]
  simp only [Result.andThen]
  rw [Sem.run_bind, run_sizeOf h3]
  rfl

def takeS : Nat → Code → Code
  | 0, _ => .skip
  | n + 1, .seq x y => .seq x (takeS n y)
  | _ + 1, c => .scope c
def dropS : Nat → Code → Code
  | 0, c => c
  | n + 1, .seq _ y => dropS n y
  | _ + 1, c => c
theorem takeS_zero (c : Code) : takeS 0 c = .skip := rfl
theorem takeS_succ (n : Nat) (x y : Code) : takeS (n + 1) (.seq x y) = .seq x (takeS n y) := rfl
theorem dropS_zero (c : Code) : dropS 0 c = c := rfl
theorem dropS_succ (n : Nat) (x y : Code) : dropS (n + 1) (.seq x y) = dropS n y := rfl

theorem splitS_sound (hm : P.follows .mixedOrders = true) {K : St → Prop} {R : Exit → Act → World → Prop} : ∀ (n : Nat) (c : Code) (σ : St) (ρ : Nat → Option Nat) (ok : Nat → Prop) (a : Act) (w : World), SR ρ ok σ a w →
    wpA P (takeS n c) (onlyQ K) σ → (∀ σ' ρ' ok' a' w', K σ' → SR ρ' ok' σ' a' w' → Goes ρ ok w ρ' ok' w' → (dropS n c).wp P R a' w') → c.wp P R a w := by
  intro n
  induction n with
  | zero => intro c σ ρ ok a w h hr ht; exact ht σ ρ ok a w hr h (Goes.refl _ _ _)
  | succ n ih =>
    intro c σ ρ ok a w h hr ht
    cases c with
    | seq x y =>
      rw [takeS_succ] at hr
      refine wp_seq (Code.wp_mono ?_ (code_sound hm x _ σ ρ ok a w h hr))
      rintro e a' w' ⟨σ', ρ', ok', q, s, g⟩
      cases e with
      | normal => exact ih y σ' ρ' ok' a' w' s q (fun σ'' ρ'' ok'' a'' w'' k s' g' => ht σ'' ρ'' ok'' a'' w'' k s' (g.trans g'))
      | _ => exact q.elim
    | _ => exact hr.elim

/-- A part of a function by AnyS, the parts ahead of it and behind it by the machine. -/
theorem three_parts (hm : P.follows .mixedOrders = true) {K : St → Prop} {Q : Exit → St → Prop} (n : Nat) {c : Code} {id : Nat} {ops : Array Oper} {tl : Code} (hc : dropS n c = .seq (.region id ops true) tl) {σ : St} {ρ : Nat → Option Nat} {ok : Nat → Prop} {a : Act} {w : World} (h : SR ρ ok σ a w)
    (hr : wpA P (takeS n c) (onlyQ K) σ) (hk : ∀ σ', K σ' → AnyS P ops (fun σ'' => wpA P tl Q σ'') ops.size (Array.replicate ops.size false) σ') : c.wp P (PostC ρ ok w Q) a w := by
  refine splitS_sound hm n c σ ρ ok a w h hr fun σ' ρ' ok' a' w' k s g => ?_
  rw [hc]
  refine wp_seq (Code.wp_mono ?_ (region_any hm s (hk σ' k)))
  rintro e a'' w'' ⟨σ'', ρ'', ok'', q, s', g'⟩
  cases e with
  | normal => exact Code.wp_mono (PostC.trans (g.trans g')) (code_sound hm tl Q σ'' ρ'' ok'' a'' w'' s' q)
  | _ => exact q.elim
theorem pcall_of_wp' {f : FuncId} {fn : Func} {c : Code} {args : List TV} {r : TV} (hent : ∀ (as : Array Value) w, (callFunc f as).run P w = .ok (.enter f as) w) (hf : P.funcs[f]? = some fn) (hb : fn.body = some c)
    (hn : args.length ≤ fn.ntmps) (hsm : fn.ntmps ≤ PIN) (h : ∀ ρ ok a w, SR ρ ok (initSt fn.ntmps (args.map emb) noH) a w → c.wp P (PostC ρ ok w (retQ P fn.results.toList r)) a w) : PCall P f args r := by
  refine ⟨hent, fun ok w vs hok hv => calls_of_wp hf hb (Code.wp_mono ?_ (h noρ ok _ w (init_SR ⟨fun b cs hb => (by cases hb), fun _ _ => rfl, fun _ _ _ h => (by cases h), fun n hn => ⟨hok n hn, fun _ h => (by cases h)⟩⟩ hv (by rw [hv.1]; simpa using hn) hsm)))⟩
  rintro e a w' ⟨σ, ρ', ok', ⟨he, hres, hfz⟩, s, g⟩
  obtain ⟨v, r1, r2⟩ := results_sound s hres
  have hok2 : ∀ n, okAll ok' ρ' n → n < w'.heap.size := fun n hn => by
    rcases hn with hn | ⟨b, hb⟩
    · exact (s.okR n hn).1
    · exact himg s.toHR hb
  have hg2 : Goes noρ ok w noρ (okAll ok' ρ') w' := by
    refine ⟨g.size, g.same, g.shape, fun b n hb => (by cases hb), fun n hn => .inl (g.up n hn), fun n hn => ?_, fun _ _ => .inl rfl, g.env⟩
    rcases hn with hn | ⟨b, hb⟩
    · exact g.down n hn
    · rcases g.img b n hb with ⟨b', h1⟩ | h1
      · cases h1
      · exact .inr (.inr h1)
  have hfin : a.defers = [] ∧ ∃ v, (results fn a.tmps).run P w' = .ok v w' ∧ ∃ v' ok', Ending.returned v = .returned v' ∧ RA w' ok' noρ (emb r) v' ∧ Goes noρ ok w noρ ok' w' ∧ ∀ n, ok' n → n < w'.heap.size :=
    ⟨s.defers, v, r1, v, okAll ok' ρ', rfl, hfz.sound s.toHR r2, hg2, hok2⟩
  rcases he with rfl | rfl <;> exact hfin
theorem pcall_of_wp {f : FuncId} {fn : Func} {c : Code} {n : Nat} {rs : List ResultVar} {args : List TV} {r : TV} (hent : ∀ (as : Array Value) w, (callFunc f as).run P w = .ok (.enter f as) w) (hf : P.funcs[f]? = some fn)
    (hb : fn.body = some c) (hn : fn.ntmps = n) (hrs : fn.results = rs.toArray) (hl : args.length ≤ n) (hsm : n ≤ PIN) (h : ∀ ρ ok a w, SR ρ ok (initSt n (args.map emb) noH) a w → c.wp P (PostC ρ ok w (retQ P rs r)) a w) : PCall P f args r := by
  subst hn; have e : fn.results.toList = rs := by rw [hrs]
  subst e; exact pcall_of_wp' hent hf hb hl hsm h
theorem append_none {t t' ty : TypeId} {A' : Option Addr} {c' : Nat} {w : World} (h1 : tok P t = true) (h2 : isSliceD (tdesc P t) = true) (h3 : tok P (telem P t) = true) (h4 : tok P t' = true) (h5 : isSliceD (tdesc P t') = true)
    {new : Array Value} (hnew : (Builtin.firstCells (tsize P (telem P t)) 0 (.slice A' 0 c')).run P w = .ok new w) :
    (Builtin.append_ #[t, t'] ty #[.slice none 0 0, .slice A' 0 c']).run P w = .ok (.slice none 0 0) w := by
  unfold Builtin.append_
  simp only [List.getElem?_toArray, List.getElem?_cons_zero, List.getElem?_cons_succ]
  rw [Sem.run_bind, run_underlying h1, slice_of h2]
  simp only [Result.andThen]
  rw [Sem.run_bind, run_sizeOf h3]
  simp only [Result.andThen]
  rw [Sem.run_bind, run_underlying h4, slice_of h5]
  simp only [Result.andThen]
  rw [Sem.run_bind]
  simp only [Result.andThen, Sem.run_pure, Bool.false_eq_true, if_false, Builtin.lenOf]
  rw [Sem.run_bind]
  simp only [Sem.run_pure, Result.andThen, Bool.not_false, if_true]
  rw [if_pos (Nat.le_refl 0), Sem.run_bind, hnew]
  rfl
/-- append of nothing to nil. -/
theorem opA_app_none {m : Nat} {σ : St} {K : AV → St → Prop} {d : Option Nat} {ty : TypeId} {pos : String} {af : Array Edge} {g : Option (Nat × Bool)} {x y : Operand} {t t' : TypeId} (hm : 2 ≤ m) (hty : tok P t = true ∧ isSliceD (tdesc P t) = true ∧ tok P (telem P t) = true ∧ tok P t' = true ∧ isSliceD (tdesc P t') = true)
    {nl : Option Bool} (hx : ev σ.s x = .one (.t (.seq (some true) []))) (hy : ev σ.s y = .one (.t (.seq nl []))) (hK : K (.one (.t (.seq (some true) []))) σ) :
    OpA P m ⟨d, .call { callee := .builtin .append, args := #[x, y], argTypes := #[t, t'] }, ty, pos, af, g⟩ σ K := by
  refine opA_by hm (fun ρ ok a w h => ?_) rfl hK
  obtain ⟨h1, h2, h3, h4, h5⟩ := hty
  have hax := RA_ev h x
  have hay := RA_ev h y
  rw [hx] at hax
  rw [hy] at hay
  obtain ⟨A, c, hvx, g0, g3⟩ : ∃ A c, a.eval x = .slice A 0 c ∧ (A = none → c = 0) ∧ A = none := by
    generalize a.eval x = v at hax
    obtain ⟨A, c, sz, blk, off, u, rfl, k2, k0, k3, _⟩ := hax.seq_inv2
    exact ⟨A, c, rfl, k0, k3 rfl⟩
  subst g3
  obtain rfl := g0 rfl
  obtain ⟨A', c', vs, hvy, hvs1, hvs2, hvs3⟩ := seq_cells (P := P) (sz := tsize P (telem P t)) hay (by simp)
  rw [hvy] at hvs1
  refine ⟨.slice none 0 0, w, ρ, ok, execOp_append rfl (by rw [hvx, hvy]; exact append_none h1 h2 h3 h4 h5 (hvs1 w rfl)), ?_, h, Goes.refl _ _ _⟩
  rw [hvx] at hax
  exact hax
end
end Go.Abs
