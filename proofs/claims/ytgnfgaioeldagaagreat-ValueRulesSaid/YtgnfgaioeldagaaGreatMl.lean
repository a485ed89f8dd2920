/- At every input the call answers true and leaves its arguments as they were; no conditions. -/
import Derived.Test.YtgnfgaioeldagaaGreatMk
set_option linter.unusedSimpArgs false
set_option linter.unusedVariables false
namespace Go.Abs
open Go
/-! ### A region walked by hand, each operation by the rule that one picks -/
def stepX (P : Program) (o : Oper) (σ : St) (K : AV → St → Prop) : Prop := stepA P 2 o σ K ∨ OpA P 2 o σ K
def runX (P : Program) (Q : St → Prop) : List Oper → St → Prop
  | [], σ => Q σ
  | o :: l, σ => o.guard = none ∧ dstOk σ.n o.dst = true ∧ stepX P o σ fun v σ' => runX P Q l (σ'.putO o.dst v)
/-- Part k of the body is walked by hand. -/
def wpY (P : Program) : Nat → Code → (Exit → St → Prop) → St → Prop
  | 0, c, Q, σ => match c with
    | .seq (.region _ ops false) y => runX P (wpA P y Q) ops.toList σ
    | c => wpA P c Q σ
  | k + 1, c, Q, σ => match c with
    | .seq x y => wpA P x (seqQ (wpY P k y Q) Q) σ
    | c => wpA P c Q σ
variable {P : Program}
@[go_sem] theorem wpY_zero {id : Nat} {l : List Oper} {y : Code} {Q : Exit → St → Prop} {σ : St} : wpY P 0 (.seq (.region id l.toArray false) y) Q σ = runX P (wpA P y Q) l σ := rfl
@[go_sem] theorem wpY_succ {k : Nat} {x y : Code} {Q : Exit → St → Prop} {σ : St} : wpY P (k + 1) (.seq x y) Q σ = wpA P x (seqQ (wpY P k y Q) Q) σ := rfl
theorem runX_nil {Q : St → Prop} {σ : St} (h : Q σ) : runX P Q [] σ := h
theorem runX_step {Q : St → Prop} {σ : St} {d : Option Nat} {op : Op} {ty : TypeId} {pos : String} {af : Array Edge} {l : List Oper} (hd : dstOk σ.n d = true) (h : stepA P 2 ⟨d, op, ty, pos, af, none⟩ σ fun v σ' => runX P Q l (σ'.putO d v)) :
    runX P Q (⟨d, op, ty, pos, af, none⟩ :: l) σ := ⟨rfl, hd, .inl h⟩
theorem runX_op {Q : St → Prop} {σ : St} {d : Option Nat} {op : Op} {ty : TypeId} {pos : String} {af : Array Edge} {l : List Oper} (hd : dstOk σ.n d = true) (h : OpA P 2 ⟨d, op, ty, pos, af, none⟩ σ fun v σ' => runX P Q l (σ'.putO d v)) :
    runX P Q (⟨d, op, ty, pos, af, none⟩ :: l) σ := ⟨rfl, hd, .inr h⟩
theorem stepX_sound {ρ : Nat → Option Nat} {ok : Nat → Prop} {σ : St} {a : Act} {w : World} {o : Oper} {K : AV → St → Prop} {Q : Exit → Act → World → Prop} (h : SR ρ ok σ a w) (hd : dstOk σ.n o.dst = true) (hs : stepX P o σ K) :
    o.wp P a w (fun a' w' => ∃ x v τ ρ' ok', K x τ ∧ a' = a.put o.dst v ∧ RA w' ok' ρ' x v ∧ SR ρ' ok' τ a w' ∧ Goes ρ ok w ρ' ok' w' ∧ τ.n = σ.n) Q := by
  rcases hs with hs | hs
  · exact step_sound h hd hs
  · obtain ⟨r, σ', hn, h1, hK⟩ := hs
    obtain ⟨v, w', ρ', ok', hrun, hr, hsr, hg⟩ := h1 ρ ok a w h
    unfold Oper.wp
    rw [hrun]
    exact ⟨r, v, σ', ρ', ok', hK, rfl, hr, hsr, hg, hn⟩
theorem runX_sound {ops : Array Oper} {Qa : St → Prop} {Q : Exit → Act → World → Prop} : ∀ (l : List Oper) (σ : St) (ρ : Nat → Option Nat) (ok : Nat → Prop) (a : Act) (w : World), SR ρ ok σ a w → runX P Qa l σ →
    (∀ σ' ρ' ok' a' w', Qa σ' → SR ρ' ok' σ' a' w' → Goes ρ ok w ρ' ok' w' → Q .normal a' w') → wpList P ops Q l a w := by
  intro l
  induction l with
  | nil => intro σ ρ ok a w h hr hq; exact hq σ ρ ok a w hr h (Goes.refl _ _ _)
  | cons o l ih =>
    intro σ ρ ok a w h hr hq
    obtain ⟨hg0, hd, hr⟩ := hr
    unfold wpList
    rw [if_pos (by unfold Region.wanted; rw [hg0])]
    refine .inl (Oper.wp_mono ?_ (stepX_sound h hd hr))
    rintro a' w' ⟨x, v, τ, ρ', ok', hK, rfl, hx, hsr, hg, hn⟩
    exact ih _ ρ' ok' _ w' (hsr.putA (by rw [hn]; exact hd) hx) hK (fun σ'' ρ'' ok'' a'' w'' q s g => hq σ'' ρ'' ok'' a'' w'' q s (hg.trans g))
theorem wpY_sound (hm : P.follows .mixedOrders = true) : ∀ (k : Nat) (c : Code) (Q : Exit → St → Prop) (σ : St) (ρ : Nat → Option Nat) (ok : Nat → Prop) (a : Act) (w : World), SR ρ ok σ a w → wpY P k c Q σ → c.wp P (PostC ρ ok w Q) a w
  | 0, c, Q, σ, ρ, ok, a, w, h, hr => by
    unfold wpY at hr
    split at hr
    · rename_i id ops y
      refine wp_seq (wp_region_list (runX_sound ops.toList σ ρ ok a w h hr ?_))
      intro σ' ρ' ok' a' w' q s g
      exact Code.wp_mono (PostC.trans g) (code_sound hm y Q σ' ρ' ok' a' w' s q)
    · exact code_sound hm _ Q σ ρ ok a w h hr
  | k + 1, c, Q, σ, ρ, ok, a, w, h, hr => by
    unfold wpY at hr
    split at hr
    · rename_i x y
      refine wp_seq (Code.wp_mono ?_ (code_sound hm x _ σ ρ ok a w h hr))
      rintro e a' w' ⟨σ', ρ', ok', q, s, g⟩
      cases e with
      | normal => exact Code.wp_mono (PostC.trans g) (wpY_sound hm k y Q σ' ρ' ok' a' w' s q)
      | _ => exact ⟨σ', ρ', ok', q, s, g⟩
    · exact code_sound hm _ Q σ ρ ok a w h hr
theorem pcall_of_wpY (k : Nat) (hm : P.follows .mixedOrders = true) {f : FuncId} {fn : Func} {c : Code} {n : Nat} {rs : List ResultVar} {args : List TV} {r : TV} (hent : ∀ (as : Array Value) w, (callFunc f as).run P w = .ok (.enter f as) w) (hf : P.funcs[f]? = some fn)
    (hb : fn.body = some c) (hn : fn.ntmps = n) (hrs : fn.results = rs.toArray) (hl : args.length ≤ n) (hsm : n ≤ PIN) (h : wpY P k c (retQ P rs r) (initSt n (args.map emb) noH)) : PCall P f args r := by
  subst hn
  have e : fn.results.toList = rs := by rw [hrs]
  subst e
  refine ⟨hent, fun ok w vs hok hv => calls_of_wp hf hb (Code.wp_mono ?_ (wpY_sound hm k c _ _ noρ ok _ w (init_SR ⟨fun b cs hb => (by cases hb), fun _ _ => rfl, fun _ _ _ h => (by cases h), fun n hn => ⟨hok n hn, fun _ h => (by cases h)⟩⟩ hv (by rw [hv.1]; simpa using hl) hsm) h))⟩
  rintro e a w' ⟨σ, ρ', ok', ⟨he, hres, hfz⟩, s, g⟩
  obtain ⟨v, r1, r2⟩ := results_sound s hres
  have hok2 : ∀ n, okAll ok' ρ' n → n < w'.heap.size := fun n hn => by
    rcases hn with hn | ⟨b, hb⟩
    · exact (s.okR n hn).1
    · exact himg s.toHR hb
  have hg2 : Goes noρ ok w noρ (okAll ok' ρ') w' := by
    refine ⟨g.size, g.same, g.shape, fun b n hb => (by cases hb), fun n hn => .inl (g.up n hn), fun n hn => ?_, fun _ _ => .inl rfl, g.env⟩
    rcases hn with hn | ⟨b, hb⟩
    · exact g.down n hn
    · rcases g.img b n hb with ⟨b', h1⟩ | h1
      · cases h1
      · exact .inr (.inr h1)
  have hfin : a.defers = [] ∧ ∃ v, (results fn a.tmps).run P w' = .ok v w' ∧ ∃ v' ok', Ending.returned v = .returned v' ∧ RA w' ok' noρ (emb r) v' ∧ Goes noρ ok w noρ ok' w' ∧ ∀ n, ok' n → n < w'.heap.size :=
    ⟨s.defers, v, r1, v, okAll ok' ρ', rfl, hfz.sound s.toHR r2, hg2, hok2⟩
  rcases he with rfl | rfl <;> exact hfin
end Go.Abs
