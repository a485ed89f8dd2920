/- At every input the call answers true and leaves its arguments as they were; no conditions. -/
import Derived.Test.YtgnfgaioeldagaaGreatMi
set_option linter.unusedSimpArgs false
set_option linter.unusedVariables false
namespace Go.Abs
open Go
/-! ### A walk with pauses: at each the own blocks may be looked at anew -/
def pauQ (b : Bool) (K : St → Prop) (σ : St) : Prop := if b = true then ∃ σ', GStep σ σ' ∧ K σ' else K σ
/-- ks: behind which parts of the body there is a pause. -/
def wpS (P : Program) : List Bool → Code → (Exit → St → Prop) → St → Prop
  | [], c, Q, σ => wpA P c Q σ
  | b :: ks, c, Q, σ => match c with
    | .seq x y => wpA P x (seqQ (pauQ b (wpS P ks y Q)) Q) σ
    | c => wpA P c Q σ
variable {P : Program}
@[go_sem] theorem wpS_nil {c : Code} {Q : Exit → St → Prop} {σ : St} : wpS P [] c Q σ = wpA P c Q σ := rfl
@[go_sem] theorem wpS_false {ks : List Bool} {x y : Code} {Q : Exit → St → Prop} {σ : St} : wpS P (false :: ks) (.seq x y) Q σ = wpA P x (seqQ (wpS P ks y Q) Q) σ := rfl
@[go_sem] theorem wpS_true {ks : List Bool} {x y : Code} {Q : Exit → St → Prop} {σ : St} : wpS P (true :: ks) (.seq x y) Q σ = wpA P x (seqQ (pauQ true (wpS P ks y Q)) Q) σ := rfl
theorem pau {K : St → Prop} {σ : St} (σ' : St) (h : GStep σ σ') (hK : K σ') : pauQ true K σ := ⟨σ', h, hK⟩
theorem wpS_sound (hm : P.follows .mixedOrders = true) : ∀ (ks : List Bool) (c : Code) (Q : Exit → St → Prop) (σ : St) (ρ : Nat → Option Nat) (ok : Nat → Prop) (a : Act) (w : World), SR ρ ok σ a w → wpS P ks c Q σ → c.wp P (PostC ρ ok w Q) a w
  | [], c, Q, σ, ρ, ok, a, w, h, hr => code_sound hm c Q σ ρ ok a w h hr
  | b :: ks, c, Q, σ, ρ, ok, a, w, h, hr => by
    cases c with
    | seq x y =>
      have hr : wpA P x (seqQ (pauQ b (wpS P ks y Q)) Q) σ := hr
      refine wp_seq (Code.wp_mono ?_ (code_sound hm x _ σ ρ ok a w h hr))
      rintro e a' w' ⟨σ', ρ', ok', q, s, g⟩
      cases e with
      | normal =>
        have q : pauQ b (wpS P ks y Q) σ' := q
        cases b with
        | true =>
          obtain ⟨σ2, hst, q⟩ := q
          obtain ⟨ρ2, ok2, s2, g2⟩ := hst ρ' ok' a' w' s
          exact Code.wp_mono (PostC.trans (g.trans g2)) (wpS_sound hm ks y Q σ2 ρ2 ok2 a' w' s2 q)
        | false => exact Code.wp_mono (PostC.trans g) (wpS_sound hm ks y Q σ' ρ' ok' a' w' s q)
      | _ => exact ⟨σ', ρ', ok', q, s, g⟩
    | _ => exact code_sound hm _ Q σ ρ ok a w h hr
theorem pcall_of_wpS (ks : List Bool) (hm : P.follows .mixedOrders = true) {f : FuncId} {fn : Func} {c : Code} {n : Nat} {rs : List ResultVar} {args : List TV} {r : TV} (hent : ∀ (as : Array Value) w, (callFunc f as).run P w = .ok (.enter f as) w) (hf : P.funcs[f]? = some fn)
    (hb : fn.body = some c) (hn : fn.ntmps = n) (hrs : fn.results = rs.toArray) (hl : args.length ≤ n) (hsm : n ≤ PIN) (h : wpS P ks c (retQ P rs r) (initSt n (args.map emb) noH)) : PCall P f args r := by
  subst hn
  have e : fn.results.toList = rs := by rw [hrs]
  subst e
  refine ⟨hent, fun ok w vs hok hv => calls_of_wp hf hb (Code.wp_mono ?_ (wpS_sound hm ks c _ _ noρ ok _ w (init_SR ⟨fun b cs hb => (by cases hb), fun _ _ => rfl, fun _ _ _ h => (by cases h), fun n hn => ⟨hok n hn, fun _ h => (by cases h)⟩⟩ hv (by rw [hv.1]; simpa using hl) hsm) h))⟩
  rintro e a w' ⟨σ, ρ', ok', ⟨he, hres, hfz⟩, s, g⟩
  obtain ⟨v, r1, r2⟩ := results_sound s hres
  have hok2 : ∀ n, okAll ok' ρ' n → n < w'.heap.size := fun n hn => by
    rcases hn with hn | ⟨b, hb⟩
    · exact (s.okR n hn).1
    · exact himg s.toHR hb
  have hg2 : Goes noρ ok w noρ (okAll ok' ρ') w' := by
    refine ⟨g.size, g.same, g.shape, fun b n hb => (by cases hb), fun n hn => .inl (g.up n hn), fun n hn => ?_, fun _ _ => .inl rfl, g.env⟩
    rcases hn with hn | ⟨b, hb⟩
    · exact g.down n hn
    · rcases g.img b n hb with ⟨b', h1⟩ | h1
      · cases h1
      · exact .inr (.inr h1)
  have hfin : a.defers = [] ∧ ∃ v, (results fn a.tmps).run P w' = .ok v w' ∧ ∃ v' ok', Ending.returned v = .returned v' ∧ RA w' ok' noρ (emb r) v' ∧ Goes noρ ok w noρ ok' w' ∧ ∀ n, ok' n → n < w'.heap.size :=
    ⟨s.defers, v, r1, v, okAll ok' ρ', rfl, hfz.sound s.toHR r2, hg2, hok2⟩
  rcases he with rfl | rfl <;> exact hfin
end Go.Abs
