/- At every input the call answers true and leaves its arguments as they were; no conditions. -/
import Derived.Test.YtgnfgaioeldagaaGreatMf
set_option linter.unusedSimpArgs false
set_option linter.unusedVariables false
namespace Go.Abs
open Go
/-! ### Calls that may read and write some of the walk's own blocks -/
/-- The block of the caller's that the callee calls PIN + k: θ k. -/
def thI (θ : Nat → Nat) (b : Nat) : Nat := θ (b - PIN)
def thC (θ : Nat → Nat) : C → C
  | .t x => .t x
  | .ptr b o => .ptr (thI θ b) o
  | .vec b s o n => .vec (thI θ b) s o n
  | .fn f caps => .fn f (caps.map fun p => (thI θ p.1, p.2))
def thA (θ : Nat → Nat) : AV → AV
  | .one c => .one (thC θ c)
  | .agg cs => .agg (cs.map (thC θ))
  | .iptr cs => .iptr cs
  | .tup xs => .tup (thAs xs)
  | .junk => .junk
where thAs : List AV → List AV
  | [] => []
  | x :: l => thA θ x :: thAs l
theorem thAs_map {θ : Nat → Nat} : ∀ xs : List AV, thA.thAs θ xs = xs.map (thA θ)
  | [] => rfl
  | x :: l => by show thA θ x :: thA.thAs θ l = _; rw [thAs_map l]; rfl
/-- What a cell speaks of is there. -/
def inC (X : Heap) : C → Prop
  | .t _ => True
  | .ptr b _ => X b ≠ none
  | .vec b _ _ _ => X b ≠ none
  | .fn _ caps => ∀ p ∈ caps, X p.1 ≠ none
def inA (X : Heap) : AV → Prop
  | .one c => inC X c
  | .agg cs => ∀ c ∈ cs, inC X c
  | .iptr _ => True
  | .tup xs => inAs xs
  | .junk => True
where inAs : List AV → Prop
  | [] => True
  | x :: l => inA X x ∧ inAs l
theorem thA_id {X : Heap} {θ : Nat → Nat} (hid : ∀ c : C, inC X c → thC θ c = c) : ∀ r : AV, inA X r → thA θ r = r
  | .one c, hr => by show AV.one _ = _; rw [hid c hr]
  | .agg cs, hr => by
    show AV.agg _ = _
    rw [List.map_congr_left (g := id) fun c hc => hid c (hr c hc), List.map_id]
  | .iptr cs, _ => rfl
  | .junk, _ => rfl
  | .tup xs, hr => by
    show AV.tup _ = _
    rw [thA_ids hid xs hr]
where thA_ids {X : Heap} {θ : Nat → Nat} (hid : ∀ c : C, inC X c → thC θ c = c) : ∀ xs : List AV, inA.inAs X xs → thA.thAs θ xs = xs
  | [], _ => rfl
  | x :: l, h => by
    have h : inA X x ∧ inA.inAs X l := h
    show thA θ x :: thA.thAs θ l = _
    rw [thA_id hid x h.1, thA_ids hid l h.2]
theorem inAs_get {X : Heap} : ∀ {xs : List AV}, inA.inAs X xs → ∀ x ∈ xs, inA X x
  | [], _, _, hx => by cases hx
  | y :: l, h, x, hx => by
    have h : inA X y ∧ inA.inAs X l := h
    rcases List.mem_cons.1 hx with rfl | hx
    · exact h.1
    · exact inAs_get h.2 x hx
section
variable {w : World} {ok : Nat → Prop} {ρ ρ' : Nat → Option Nat} {θ : Nat → Nat} {X : Heap}
theorem RC.unren (hρ : ∀ b c, X b ≠ none → ρ (thI θ b) = some c → ρ' b = some c) {x : C} {v : Value} (hi : inC X x) (h : RC w ok ρ (thC θ x) v) : RC w ok ρ' x v := by
  cases x with
  | t x => cases h with | t h => exact .t h
  | ptr b o => cases h with | ptr h => exact .ptr (hρ _ _ hi h)
  | vec b s o n => cases h with | vec h h1 h2 h3 => exact .vec (hρ _ _ hi h) h1 h2 h3
  | fn f caps =>
    cases h with
    | fn h h1 =>
      refine .fn (by simpa using h) fun i hi1 hi2 => ?_
      obtain ⟨c, h2, h3⟩ := h1 i (by simpa using hi1) hi2
      simp only [List.getElem_map] at h2 h3
      exact ⟨c, hρ _ _ (hi _ (List.getElem_mem hi1)) h2, h3⟩
theorem RC.ren (hρ : ∀ b c, ρ' b = some c → ρ (thI θ b) = some c) {x : C} {v : Value} (h : RC w ok ρ' x v) : RC w ok ρ (thC θ x) v := by
  cases h with
  | t h => exact .t h
  | ptr h => exact .ptr (hρ _ _ h)
  | vec h h1 h2 h3 => exact .vec (hρ _ _ h) h1 h2 h3
  | fn h h1 =>
    refine .fn (by simpa using h) fun i hi1 hi2 => ?_
    simp only [List.length_map] at hi1
    obtain ⟨c, h2, h3⟩ := h1 i hi1 hi2
    simp only [List.getElem_map]
    exact ⟨c, hρ _ _ h2, h3⟩
theorem RA.unren' (hρ : ∀ b c, X b ≠ none → ρ (thI θ b) = some c → ρ' b = some c) : ∀ (x : AV) (v : Value), inA X x → RA w ok ρ (thA θ x) v → RA w ok ρ' x v
  | .tup xs, v, hi, h => by
    have e : thA θ (.tup xs) = .tup (xs.map (thA θ)) := by show AV.tup _ = _; rw [thAs_map]
    rw [e] at h
    cases h with
    | tup h h1 =>
      rw [List.length_map] at h
      refine .tup h fun j hj hj' => ?_
      have h2 := h1 j (by simpa using hj) hj'
      simp only [List.getElem_map] at h2
      have : SizeOf.sizeOf xs[j] < 1 + SizeOf.sizeOf xs := by have := List.sizeOf_lt_of_mem (List.getElem_mem hj); omega
      exact RA.unren' hρ _ _ (inAs_get hi _ (List.getElem_mem hj)) h2
  | .one c, v, hi, h => by
    cases h with | one h => exact .one (h.unren hρ hi)
  | .agg cs, v, hi, h => by
    cases h with
    | agg h h1 =>
      refine .agg (by simpa using h) fun j hj hj' => ?_
      have := h1 j (by simpa using hj) hj'
      simp only [List.getElem_map] at this
      exact this.unren hρ (hi _ (List.getElem_mem hj))
  | .iptr cs, v, hi, h => by
    cases h with | iptr h1 h2 h3 => exact .iptr h1 h2 h3
  | .junk, v, hi, h => by
    exact .junk
termination_by x => SizeOf.sizeOf x
theorem RA.unren (hρ : ∀ b c, X b ≠ none → ρ (thI θ b) = some c → ρ' b = some c) {x : AV} {v : Value} (hi : inA X x) (h : RA w ok ρ (thA θ x) v) : RA w ok ρ' x v := RA.unren' hρ x v hi h
theorem RA.ren' (hρ : ∀ b c, ρ' b = some c → ρ (thI θ b) = some c) : ∀ (x : AV) (v : Value), RA w ok ρ' x v → RA w ok ρ (thA θ x) v
  | .tup xs, v, h => by
    have e : thA θ (.tup xs) = .tup (xs.map (thA θ)) := by show AV.tup _ = _; rw [thAs_map]
    rw [e]
    cases h with
    | tup h h1 =>
      refine .tup (by rw [List.length_map]; exact h) fun j hj hj' => ?_
      simp only [List.length_map] at hj
      simp only [List.getElem_map]
      have : SizeOf.sizeOf xs[j] < 1 + SizeOf.sizeOf xs := by have := List.sizeOf_lt_of_mem (List.getElem_mem hj); omega
      exact RA.ren' hρ _ _ (h1 j hj hj')
  | .one c, v, h => by
    cases h with | one h => exact .one (h.ren hρ)
  | .agg cs, v, h => by
    cases h with
    | agg h h1 =>
      refine .agg (by simpa using h) fun j hj hj' => ?_
      simp only [List.length_map] at hj
      simp only [List.getElem_map]
      exact (h1 j hj hj').ren hρ
  | .iptr cs, v, h => by
    cases h with | iptr h1 h2 h3 => exact .iptr h1 h2 h3
  | .junk, v, h => by
    exact .junk
termination_by x => SizeOf.sizeOf x
theorem RA.ren (hρ : ∀ b c, ρ' b = some c → ρ (thI θ b) = some c) {x : AV} {v : Value} (h : RA w ok ρ' x v) : RA w ok ρ (thA θ x) v := RA.ren' hρ x v h
end
/-- A call told of blocks PIN, PIN + 1, .. is a call of the same on the caller's blocks. -/
theorem MCall.ren {P : Program} {f : FuncId} {args : List AV} {X X' H H' : Heap} {r : AV} (θ : Nat → Nat) (h : MCall P f args X r X')
    (hlow : ∀ b, b < PIN → X b = none) (hdom : ∀ b, X' b = none ↔ X b = none)
    (hinj : ∀ b b', X b ≠ none → X b' ≠ none → thI θ b = thI θ b' → b = b')
    (hcl : ∀ b cs, X b = some cs → ∀ c ∈ cs, inC X c) (hargs : ∀ x ∈ args, inA X x)
    (hH : ∀ b cs, X b = some cs → H (thI θ b) = some (cs.map (thC θ)))
    (hH1 : ∀ b cs, X' b = some cs → H' (thI θ b) = some (cs.map (thC θ))) (hH2 : ∀ b, (∀ b', X b' ≠ none → thI θ b' ≠ b) → H' b = H b) :
    MCall P f (args.map (thA θ)) H (thA θ r) H' := by
  refine ⟨h.1, fun ρ ok w vs hHR hv => ?_⟩
  let ρX : Nat → Option Nat := fun b => match X b with | none => none | some _ => ρ (thI θ b)
  have hρX : ∀ b c, X b ≠ none → ρ (thI θ b) = some c → ρX b = some c := fun b c hb hc => by
    simp only [ρX]; cases hx : X b with
    | none => exact absurd hx hb
    | some _ => exact hc
  have hρX2 : ∀ b c, ρX b = some c → X b ≠ none ∧ ρ (thI θ b) = some c := fun b c hc => by
    simp only [ρX] at hc
    cases hx : X b with
    | none => rw [hx] at hc; cases hc
    | some _ => rw [hx] at hc; exact ⟨by simp, hc⟩
  have hHX : HR ρX ok X w := by
    refine ⟨fun b cs hb => ?_, fun b hb => by simp only [ρX, hb], fun b b' c hb hb' => ?_, fun n hn => ⟨(hHR.okR n hn).1, fun b hb => (hHR.okR n hn).2 _ (hρX2 b n hb).2⟩⟩
    · obtain ⟨c, arr, el, h1, h2, h3, h4⟩ := hHR.heap _ _ (hH b cs hb)
      refine ⟨c, arr, el, hρX b c (by rw [hb]; simp) h1, h2, by simpa using h3, fun j hj hj' => ?_⟩
      have := h4 j (by simpa using hj) hj'
      simp only [List.getElem_map] at this
      exact this.unren hρX (hcl b cs hb _ (List.getElem_mem hj))
    · obtain ⟨k1, k2⟩ := hρX2 b c hb
      obtain ⟨k3, k4⟩ := hρX2 b' c hb'
      exact hinj b b' k1 k3 (hHR.inj _ _ c k2 k4)
  have hvX : RArgs w ok ρX args vs := by
    refine ⟨by rw [hv.1]; simp, fun i hi hi' => ?_⟩
    have := hv.2 i (by simpa using hi) hi'
    simp only [List.getElem_map] at this
    exact this.unren hρX (hargs _ (List.getElem_mem hi))
  refine (h.2 ρX ok w vs hHX hvX).mono ?_
  rintro e w' ⟨v, ρ', ok', rfl, hr, hH', hg, hext⟩
  have hρ' : ∀ b c, ρ' b = some c → X b ≠ none ∧ ρ (thI θ b) = some c := fun b c hc => by
    have hb : X b ≠ none := by
      intro hb
      have := hH'.dom b ((hdom b).2 hb)
      rw [this] at hc; cases hc
    obtain ⟨cs, hcs⟩ := Option.ne_none_iff_exists'.1 hb
    obtain ⟨c1, _, _, h1, _⟩ := hHX.heap b cs hcs
    have e : c = c1 := by
      have := hext b c1 h1
      rw [hc] at this; exact Option.some.inj this
    exact ⟨hb, by rw [e]; exact (hρX2 b c1 h1).2⟩
  have himgX : ∀ b n, ρX b = some n → n < w.heap.size := fun b n hb => himg (σ := ⟨0, fun _ => .junk, X⟩) hHX hb
  have hk : Keeps ok w w' := fun n hn => hg.same n (hHR.okR n hn).1 fun b hb => (hHR.okR n hn).2 _ (hρX2 b n hb).2
  have hokd : ∀ n, ok' n → ok n ∨ w.heap.size ≤ n := fun n hn => by
    rcases hg.down n hn with h1 | ⟨b', h1⟩ | h1
    · exact .inl h1
    · exact absurd (hext b' n h1) ((hH'.okR n hn).2 b')
    · exact .inr h1
  refine ⟨v, ρ, ok', rfl, hr.ren fun b c hc => (hρ' b c hc).2, ⟨fun b cs hb => ?_, fun b hb => ?_, hHR.inj, fun n hn => ⟨(hH'.okR n hn).1, fun b hb => ?_⟩⟩, ⟨hg.size, fun n hn hb => hg.same n hn fun b hb' => hb _ (hρX2 b n hb').2, hg.shape, fun b n hb => .inl ⟨b, hb⟩, hg.up, fun n hn => ?_, fun _ _ => .inl rfl, hg.env⟩, fun _ _ h => h⟩
  · by_cases hx : ∃ b', X b' ≠ none ∧ thI θ b' = b
    · obtain ⟨b', hb', rfl⟩ := hx
      obtain ⟨cs', hcs'⟩ := Option.ne_none_iff_exists'.1 (fun e => hb' ((hdom b').1 e))
      rw [hH1 b' cs' hcs'] at hb
      cases hb
      obtain ⟨c, arr, el, h1, h2, h3, h4⟩ := hH'.heap b' cs' hcs'
      refine ⟨c, arr, el, (hρ' b' c h1).2, h2, by simpa using h3, fun j hj hj' => ?_⟩
      simp only [List.length_map] at hj
      simp only [List.getElem_map]
      exact (h4 j hj hj').ren fun b c hc => (hρ' b c hc).2
    · rw [hH2 b fun b' hb' e => hx ⟨b', hb', e⟩] at hb
      obtain ⟨c, arr, el, h1, h2, h3, h4⟩ := hHR.heap b cs hb
      have hsame : w'.heap[c]? = w.heap[c]? := hg.same c (himg (σ := ⟨0, fun _ => .junk, H⟩) hHR h1) fun b' hb' => by
        obtain ⟨k1, k2⟩ := hρX2 b' c hb'
        exact hx ⟨b', k1, hHR.inj _ _ c k2 h1⟩
      exact ⟨c, arr, el, h1, by rw [hsame]; exact h2, h3, fun j hj hj' => (h4 j hj hj').mono hk hg.up hg.shape fun _ _ h => h⟩
  · by_cases hx : ∃ b', X b' ≠ none ∧ thI θ b' = b
    · obtain ⟨b', hb', rfl⟩ := hx
      obtain ⟨cs', hcs'⟩ := Option.ne_none_iff_exists'.1 (fun e => hb' ((hdom b').1 e))
      rw [hH1 b' cs' hcs'] at hb; cases hb
    · rw [hH2 b fun b' hb' e => hx ⟨b', hb', e⟩] at hb
      exact hHR.dom b hb
  · rcases hokd n hn with h1 | h1
    · exact (hHR.okR n h1).2 b hb
    · have := himg (σ := ⟨0, fun _ => .junk, H⟩) hHR hb; omega
  · rcases hokd n hn with h1 | h1
    · exact .inl h1
    · exact .inr (.inr h1)
/-- The same as a step of a walk. -/
theorem call_ren {P : Program} {m : Nat} {f : FuncId} {as args : List AV} {X X' H' : Heap} {r : AV} {σ : St} {K : AV → St → Prop} (θ : Nat → Nat) (hm : m = 1 ∨ m = 2) (h : MCall P f args X r X') (has : as = args.map (thA θ))
    (hlow : ∀ b, b < PIN → X b = none) (hdom : ∀ b, X' b = none ↔ X b = none)
    (hinj : ∀ b b', X b ≠ none → X b' ≠ none → thI θ b = thI θ b' → b = b')
    (hcl : ∀ b cs, X b = some cs → ∀ c ∈ cs, inC X c) (hargs : ∀ x ∈ args, inA X x)
    (hH : ∀ b cs, X b = some cs → σ.H (thI θ b) = some (cs.map (thC θ)))
    (hH1 : ∀ b cs, X' b = some cs → H' (thI θ b) = some (cs.map (thC θ))) (hH2 : ∀ b, (∀ b', X b' ≠ none → thI θ b' ≠ b) → H' b = σ.H b)
    (hK : K (thA θ r) (σ.withH H')) : CallA P m f as σ K :=
  has ▸ .inr (.inl ⟨hm, _, _, h.ren θ hlow hdom hinj hcl hargs hH hH1 hH2, hK⟩)
/-! A contract on own blocks, walked through. -/
def xretQ (P : Program) (rs : List ResultVar) (r : AV) (X' : Heap) (e : Exit) (σ : St) : Prop :=
  (e = .normal ∨ e = .ret) ∧ (∀ x ∈ rs, resOk P σ x) ∧ retA P rs σ = r ∧ ∀ b, PIN ≤ b → σ.H b = X' b
theorem mcall_of_wpX {P : Program} (hm : P.follows .mixedOrders = true) {f : FuncId} {fn : Func} {c : Code} {n : Nat} {rs : List ResultVar} {args : List AV} {r : AV} {X X' : Heap} (hent : ∀ (as : Array Value) w, (callFunc f as).run P w = .ok (.enter f as) w) (hf : P.funcs[f]? = some fn)
    (hb : fn.body = some c) (hn : fn.ntmps = n) (hrs : fn.results = rs.toArray) (hl : args.length ≤ n) (hsm : n ≤ PIN)
    (hlow : ∀ b, b < PIN → X' b = none) (hdom : ∀ b, X' b = none ↔ X b = none) (hcl : ∀ b cs, X' b = some cs → ∀ c ∈ cs, inC X' c) (hr : inA X' r)
    (h : wpA P c (xretQ P rs r X') (initSt n args X)) : MCall P f args X r X' := by
  subst hn
  have e : fn.results.toList = rs := by rw [hrs]
  subst e
  refine ⟨hent, fun ρ ok w vs hHR hv => calls_of_wp hf hb (Code.wp_mono ?_ (code_sound hm c _ _ ρ ok _ w (init_SR hHR hv (by rw [hv.1]; exact hl) hsm) h))⟩
  rintro e a w' ⟨σ, ρ', ok', ⟨he, hres, hret, hX⟩, s, g⟩
  obtain ⟨v, r1, r2⟩ := results_sound s hres
  rw [hret] at r2
  let ρ2 : Nat → Option Nat := fun b => if PIN ≤ b then ρ' b else none
  have hρ2 : ∀ b c, ρ2 b = some c → PIN ≤ b ∧ ρ' b = some c := fun b c hc => by
    simp only [ρ2] at hc
    split at hc
    · exact ⟨‹_›, hc⟩
    · cases hc
  have hpin : ∀ b, X' b ≠ none → PIN ≤ b := fun b hb => by
    rcases Nat.lt_or_ge b PIN with h | h
    · exact absurd (hlow b h) hb
    · exact h
  have hkeep : ∀ b c, X' b ≠ none → ρ' (thI (fun k => PIN + k) b) = some c → ρ2 b = some c := fun b c hb hc => by
    have hp := hpin b hb
    have : thI (fun k => PIN + k) b = b := by show PIN + (b - PIN) = b; omega
    rw [this] at hc
    simp only [ρ2, hp, if_true]; exact hc
  have hidC : ∀ c : C, inC X' c → thC (fun k => PIN + k) c = c := fun c hc => by
    have hid : ∀ b, X' b ≠ none → thI (fun k => PIN + k) b = b := fun b hb => by have := hpin b hb; show PIN + (b - PIN) = b; omega
    cases c with
    | t x => rfl
    | ptr b o => show C.ptr _ o = _; rw [hid b hc]
    | vec b s o n => show C.vec _ s o n = _; rw [hid b hc]
    | fn f caps =>
      show C.fn f _ = _
      congr 1
      rw [List.map_congr_left (g := id) fun p hp => by rw [hid p.1 (hc p hp)]; rfl, List.map_id]
  have hidA : thA (fun k => PIN + k) r = r := thA_id hidC r hr
  have hext : ∀ b c, ρ b = some c → ρ2 b = some c := fun b c hc => by
    have hbX : X b ≠ none := fun e => by rw [hHR.dom b e] at hc; cases hc
    have hb' : X' b ≠ none := fun e => hbX ((hdom b).1 e)
    have hp := hpin b hb'
    obtain ⟨cs, hcs⟩ := Option.ne_none_iff_exists'.1 hb'
    obtain ⟨c', _, _, h1, _⟩ := s.heap b cs (by rw [hX b hp]; exact hcs)
    rcases g.pin b hp with h2 | h2
    · simp only [ρ2, hp, if_true]; rw [h2]; exact hc
    · rw [h2] at h1; cases h1
  have hok2 : ∀ n, okAll ok' (fun b => if PIN ≤ b then none else ρ' b) n → n < w'.heap.size ∧ ∀ b, ρ2 b ≠ some n := fun n hn => by
    rcases hn with hn | ⟨b, hb⟩
    · exact ⟨(s.okR n hn).1, fun b hb => (s.okR n hn).2 b (hρ2 b n hb).2⟩
    · have hb2 : ¬ PIN ≤ b ∧ ρ' b = some n := by
        by_cases hp : PIN ≤ b
        · simp only [hp, if_true] at hb; cases hb
        · simp only [hp, if_false] at hb; exact ⟨hp, hb⟩
      exact ⟨himg s.toHR hb2.2, fun b' hb' => by
        obtain ⟨k1, k2⟩ := hρ2 b' n hb'
        have := s.inj _ _ n hb2.2 k2
        omega⟩
  have hup : ∀ n, ok' n → okAll ok' (fun b => if PIN ≤ b then none else ρ' b) n := fun n hn => .inl hn
  have hfin : a.defers = [] ∧ ∃ v, (results fn a.tmps).run P w' = .ok v w' ∧ ∃ v' ρ'' ok'', Ending.returned v = .returned v' ∧ RA w' ok'' ρ'' r v' ∧ HR ρ'' ok'' X' w' ∧ Goes ρ ok w ρ'' ok'' w' ∧ ∀ b c, ρ b = some c → ρ'' b = some c := by
    refine ⟨s.defers, v, r1, v, ρ2, okAll ok' (fun b => if PIN ≤ b then none else ρ' b), rfl, ?_, ⟨fun b cs hb => ?_, fun b hb => ?_, fun b b' c hb hb' => s.inj b b' c (hρ2 b c hb).2 (hρ2 b' c hb').2, hok2⟩, ⟨g.size, g.same, g.shape, fun b n hb => g.img b n (hρ2 b n hb).2, fun n hn => .inl (g.up n hn), fun n hn => ?_, fun b hp => ?_, g.env⟩, hext⟩
    · have h1 : RA w' ok' ρ' (thA (fun k => PIN + k) r) v := by rw [hidA]; exact r2
      exact (h1.unren (X := X') hkeep hr).mono (fun _ _ => rfl) hup (fun _ _ _ h => h) fun _ _ h => h
    · have hp := hpin b (by rw [hb]; simp)
      obtain ⟨c, arr, el, h1, h2, h3, h4⟩ := s.heap b cs (by rw [hX b hp]; exact hb)
      refine ⟨c, arr, el, by simp only [ρ2, hp, if_true]; exact h1, h2, h3, fun j hj hj' => ?_⟩
      have hin := hcl b cs hb _ (List.getElem_mem hj)
      have h5 : RC w' ok' ρ' (thC (fun k => PIN + k) cs[j]) arr[j] := by rw [hidC _ hin]; exact h4 j hj hj'
      exact (h5.unren (X := X') hkeep hin).mono (fun _ _ => rfl) hup (fun _ _ _ h => h) fun _ _ h => h
    · by_cases hp : PIN ≤ b
      · have := s.dom b (by rw [hX b hp]; exact hb)
        simp only [ρ2, hp, if_true]; exact this
      · simp only [ρ2, hp, if_false]
    · rcases hn with hn | ⟨b, hb⟩
      · rcases g.down n hn with h1 | ⟨b', h1⟩ | h1
        · exact .inl h1
        · exact .inr (.inl ⟨b', h1⟩)
        · exact .inr (.inr h1)
      · have hb2 : ¬ PIN ≤ b ∧ ρ' b = some n := by
          by_cases hp : PIN ≤ b
          · simp only [hp, if_true] at hb; cases hb
          · simp only [hp, if_false] at hb; exact ⟨hp, hb⟩
        rcases g.img b n hb2.2 with ⟨b', h1⟩ | h1
        · exact .inr (.inl ⟨b', h1⟩)
        · exact .inr (.inr h1)
    · have h1 := g.pin b hp
      simp only [ρ2, hp, if_true]; exact h1
  rcases he with rfl | rfl <;> exact hfin
end Go.Abs
namespace Go.Abs
open Go
/-! ### Appends of cells that are not trees; families of blocks; reading calls -/
section
variable {P : Program} {m : Nat} {σ : St} {ρ : Nat → Option Nat} {ok : Nat → Prop} {a : Act} {w : World}
/-- The cells of a slice that is appended. -/
def YC (P : Program) (σ : St) (y : Operand) (sz n : Nat) (ys : List C) : Prop := ys.length = n * sz ∧ ∀ (ρ : Nat → Option Nat) (ok : Nat → Prop) (a : Act) (w : World), SR ρ ok σ a w →
  ∃ A' c', ∃ vs : Array Value, a.eval y = .slice A' n c' ∧ (∀ w', w'.heap = w.heap → (Builtin.firstCells sz n (a.eval y)).run P w' = .ok vs w') ∧ vs.size = ys.length ∧ ∀ j (hj : j < ys.length) (hj' : j < vs.size), RC w ok ρ ys[j] vs[j]
theorem YC.vec {y : Operand} {d sz n : Nat} {ys : List C} (hy : ev σ.s y = .one (.vec d sz 0 n)) (hd : σ.H d = some ys) (hl : ys.length = n * sz) : YC P σ y sz n ys := by
  refine ⟨hl, fun ρ ok a w h => ?_⟩
  have hay := RA_ev h y
  rw [hy] at hay
  obtain ⟨c, cap, n0, hρb, hvy, k2, k3, k4⟩ := hay.vec_inv
  obtain ⟨cb, arr, el, e1, e2, e3, e4⟩ := h.heap d ys hd
  rw [hρb] at e1; cases e1
  refine ⟨_, cap, ((List.range (n * sz)).map fun j => (arr[j]?).getD undef).toArray, hvy, fun w' hw' => ?_, by simp [hl], fun j hj hj' => ?_⟩
  · rw [hvy]
    unfold Builtin.firstCells
    simp only []
    refine loadCells_run _ fun j hj => ?_
    have : j < arr.size := by omega
    rw [cell_heap hw']
    simp [World.cell?, e2, this]
  · have hlt : j < arr.size := by omega
    have := e4 j hj hlt
    simp only [List.getElem_toArray, List.getElem_map, List.getElem_range]
    rw [show (arr[j]?).getD undef = arr[j] by simp [hlt]]
    exact this
/-- append to a nil slice, of some cells. -/
theorem app_nilC {o : Oper} {d : Nat} {x y : Operand} {t t' : TypeId} (ho : o.op = .call { callee := .builtin .append, args := #[x, y], argTypes := #[t, t'] }) (h1 : tok P t = true) (h2 : isSliceD (tdesc P t) = true) (h3 : tok P (telem P t) = true) (h4 : tok P t' = true)
    (h5 : isSliceD (tdesc P t') = true) (hz : (tzero P (telem P t)).isSome = true) (hzl : ((tzero P (telem P t)).getD []).length = tsize P (telem P t)) (hb0 : 0 < tbytes P (telem P t)) {ys : List C} {n' : Nat} (hx : ev σ.s x = .one (.t (.seq (some true) []))) (hy : YC P σ y (tsize P (telem P t)) n' ys)
    (hpos : 0 < n') (hb : n' * tbytes P (telem P t) ≤ 2 ^ 47) (hd : σ.H d = none) (hdp : d < PIN) : OStep P o σ (.one (.vec d (tsize P (telem P t)) 0 n')) (σ.withH (upd σ.H d (some ys))) := by
  intro ρ ok a w h
  obtain ⟨z, hz⟩ := Option.isSome_iff_exists.1 hz
  rw [hz] at hzl
  simp only [Option.getD_some] at hzl
  obtain ⟨zv, hz1, hz2⟩ := litCs_tzero hz
  have hzs : zv.cells.size = tsize P (telem P t) := by
    have := (RCs_litCs (w := w) (ok := ok) (ρ := ρ) hz2).1
    rw [← hzl, this]; simp
  have hax := RA_ev h x
  rw [hx] at hax
  obtain ⟨A, c, hvx, g2, g0, g3⟩ : ∃ A c, a.eval x = .slice A 0 c ∧ 0 ≤ c ∧ (A = none → c = 0) ∧ A = none := by
    generalize a.eval x = v at hax
    obtain ⟨A, c, sz, blk, off, u, rfl, k2, k0, k3, _⟩ := hax.seq_inv2
    exact ⟨A, c, rfl, k2, k0, k3 rfl⟩
  subst g3
  obtain rfl := g0 rfl
  obtain ⟨hfl, hy⟩ := hy
  obtain ⟨A', c', vs, hvy, hvs1, hvs2, hvs3⟩ := hy ρ ok a w h
  rw [hvy] at hvs1
  obtain ⟨k, rest, hk, hrest, hrun⟩ := append_out (P := P) (w := w) (w₀ := w) (ty := o.type) (A := none) (A' := A') (n := 0) (c := 0) (n' := n') (c' := c') h1 h2 h3 h4 h5 (by omega) (by simpa using hb) hb0 hz1 (old := #[]) (fun w' _ => rfl) hvs1 rfl
  rw [Nat.zero_add] at hk hrest hrun
  obtain ⟨s1, s2⟩ := h.push (d := d) hdp hd (cs := ys) (arr := #[] ++ vs ++ rest) (el := telem P t) (by simp only [Array.empty_append, Array.size_append]; omega) (fun j hj hj' => by
    simp only [Array.empty_append]
    rw [Array.getElem_append_left (by omega)]
    exact hvs3 j hj (by omega))
  obtain ⟨r1, r2⟩ := s1.drawn
  refine ⟨.slice (some ⟨w.heap.size, 0, none⟩) n' k, _, _, _, execOp_append ho (by rw [hvx, hvy]; exact hrun), ?_, r1, s2.trans r2⟩
  refine .one (.vec (c := w.heap.size) (n := (#[] ++ vs ++ rest).size) (by simp [ext]) hk ⟨telem P t, by simp [World.shape?]⟩ ?_)
  simp only [Array.empty_append, Array.size_append, Nat.zero_add]
  rw [hrest, hvs2, hfl, hzs, ← Nat.add_mul]
  exact Nat.mul_le_mul_right _ (by omega)

/-- append to a slice of the walk's own, that is its block whole. -/
theorem app_vecC {o : Oper} {b n : Nat} {x y : Operand} {t t' : TypeId} (ho : o.op = .call { callee := .builtin .append, args := #[x, y], argTypes := #[t, t'] }) (h1 : tok P t = true) (h2 : isSliceD (tdesc P t) = true) (h3 : tok P (telem P t) = true) (h4 : tok P t' = true)
    (h5 : isSliceD (tdesc P t') = true) (hz : (tzero P (telem P t)).isSome = true) (hzl : ((tzero P (telem P t)).getD []).length = tsize P (telem P t)) (hb0 : 0 < tbytes P (telem P t)) {ys : List C} {n' : Nat} {cs : List C} (hx : ev σ.s x = .one (.vec b (tsize P (telem P t)) 0 n)) (hcs : σ.H b = some cs)
    (hn : cs.length = n * tsize P (telem P t)) (hy : YC P σ y (tsize P (telem P t)) n' ys)
    (hb : (n + n') * tbytes P (telem P t) ≤ 2 ^ 47) (hbp : b < PIN) : OStep P o σ (.one (.vec b (tsize P (telem P t)) 0 (n + n'))) (σ.renew b (cs.map (jC b) ++ ys.map (jC b))) := by
  intro ρ ok a w h
  obtain ⟨z, hz⟩ := Option.isSome_iff_exists.1 hz
  rw [hz] at hzl
  simp only [Option.getD_some] at hzl
  obtain ⟨zv, hz1, hz2⟩ := litCs_tzero hz
  have hzs : zv.cells.size = tsize P (telem P t) := by
    have := (RCs_litCs (w := w) (ok := ok) (ρ := ρ) hz2).1
    rw [← hzl, this]; simp
  have hax := RA_ev h x
  rw [hx] at hax
  obtain ⟨c, cap, n0, hρb, hvx, k2, k3, k4⟩ := hax.vec_inv
  obtain ⟨hfl, hy⟩ := hy
  obtain ⟨A', c', vs, hvy, hvs1, hvs2, hvs3⟩ := hy ρ ok a w h
  rw [hvy] at hvs1
  obtain ⟨cb, arr, el, e1, e2, e3, e4⟩ := h.heap b cs hcs
  rw [hρb] at e1; cases e1
  have hn0 : n0 = arr.size := by
    obtain ⟨el', hs⟩ := k3
    simp [World.shape?, e2] at hs
    exact hs.2.symm
  subst hn0
  by_cases hcap : n + n' ≤ cap
  · -- there is room
    have hroom : n * tsize P (telem P t) + n' * tsize P (telem P t) ≤ arr.size := by
      have : (n + n') * tsize P (telem P t) ≤ cap * tsize P (telem P t) := Nat.mul_le_mul_right _ hcap
      rw [Nat.add_mul] at this; omega
    have hone : ∀ v ∈ vs.toList, oneC v = true := fun v hv => by
      obtain ⟨j, hj, rfl⟩ := List.mem_iff_getElem.1 hv
      have hj2 : j < vs.size := by simpa using hj
      have := (hvs3 j (by omega) hj2).oneCell
      simpa using this
    obtain ⟨w', arr', r1, r2, r3, r4, r5, r6, r7⟩ := storeCells_run (P := P) (c := c) (off := n * tsize P (telem P t)) vs.toList 0 w arr e2 hone (by simp; omega)
    have hk : Keeps ok w w' := fun m hm => r3 m (fun e => (h.okR m hm).2 b (e ▸ hρb))
    have hs : ∀ m el k, w.shape? m = some (el, k) → w'.shape? m = some (el, k) := fun m el' k hsn => by
      by_cases hm : m = c
      · subst hm; simp [World.shape?, e2] at hsn; simp [World.shape?, r4, r5, hsn]
      · simpa [World.shape?, r3 m hm] using hsn
    have hin := append_in (P := P) (w := w) (w' := w') (t := t) (t' := t') (ty := o.type) (A' := A') (c0 := c) (off := 0) (n := n) (c := cap) (n' := n') (c' := c') h1 h2 h3 h4 h5 hcap (hvs1 w rfl) (by rw [Nat.zero_add]; exact r1)
    refine ⟨.slice (some ⟨c, 0, none⟩) (n + n') cap, w', ρ, ok, execOp_append ho (by rw [hvx, hvy]; exact hin), .one (.vec hρb hcap (hs _ _ _ (by simp [World.shape?, e2]; rfl) |> fun h => ⟨_, h⟩) k4), ⟨⟨fun b' cs' hb' => ?_, fun b' hb' => ?_, h.inj, fun m hm => ⟨by rw [r2]; exact (h.okR m hm).1, (h.okR m hm).2⟩⟩, h.size, fun t' => ?_, h.defers, h.small⟩, ⟨by omega, fun m hm hb' => r3 m (fun e => hb' b (e ▸ hρb)), hs, fun b' m hb' => .inl ⟨b', hb'⟩, fun _ h => h, fun _ h => .inl h, fun _ _ => .inl rfl, r7⟩⟩
    · simp only [renew_H] at hb'
      split at hb'
      · subst b'; cases hb'
        refine ⟨c, arr', el, hρb, r4, by simp only [List.length_append, List.length_map]; omega, fun j hj hj' => ?_⟩
        have e6 := r6 j
        simp only [Nat.add_zero] at e6
        by_cases hjn : j < cs.length
        · rw [List.getElem_append_left (by simpa using hjn)]
          rw [if_neg (by omega), Array.getElem?_eq_getElem hj', Array.getElem?_eq_getElem (by omega)] at e6
          rw [Option.some.inj e6]
          simp only [List.getElem_map]
          exact ((e4 j hjn (by omega)).mono hk (fun _ h => h) hs (fun _ _ h => h)).junked (fun _ _ _ h => h)
        · have hj4 : j < cs.length + ys.length := by have := hj; simp only [List.length_append, List.length_map] at this; exact this
          have hcond : n * tsize P (telem P t) ≤ j ∧ j < n * tsize P (telem P t) + vs.toList.length := ⟨by omega, by rw [Array.length_toList]; omega⟩
          rw [List.getElem_append_right (by simpa using hjn)]
          rw [if_pos hcond, Array.getElem?_eq_getElem hj', List.getElem?_eq_getElem (by rw [Array.length_toList]; omega)] at e6
          rw [Option.some.inj e6]
          have hr := (hvs3 (j - n * tsize P (telem P t)) (by omega) (by omega)).mono hk (fun _ h => h) hs (fun _ _ h => h)
          simp only [List.getElem_map, List.length_map, Array.getElem_toList, hn]
          simp only [Nat.zero_add, Nat.add_zero] at *
          exact hr.junked (fun _ _ _ h => h)
      · rename_i hne
        simp only [Option.map_eq_some_iff] at hb'
        obtain ⟨cs0, hb0', rfl⟩ := hb'
        obtain ⟨c2, arr2, el2, f1, f2, f3, f4⟩ := h.heap b' cs0 hb0'
        have hcne : c2 ≠ c := fun e => hne (h.inj b' b c2 f1 (e ▸ hρb))
        exact ⟨c2, arr2, el2, f1, by rw [r3 c2 hcne]; exact f2, by simpa using f3, fun j hj hj' => by
          simp only [List.getElem_map]
          exact ((f4 j (by simpa using hj) hj').mono hk (fun _ h => h) hs (fun _ _ h => h)).junked (fun _ _ _ h => h)⟩
    · simp only [renew_H] at hb'
      split at hb'
      · cases hb'
      · simp only [Option.map_eq_none_iff] at hb'; exact h.dom b' hb'
    · simp only [renew_s]
      exact (h.lift hk (fun _ h => h) hs (fun _ _ h => h) t').junked (fun _ _ _ h => h)
  · -- a new array
    have hold : ∀ w', w'.heap = w.heap → (Builtin.firstCells (tsize P (telem P t)) n (.slice (some ⟨c, 0, none⟩) n cap)).run P w' = .ok ((List.range (n * tsize P (telem P t))).map fun j => (arr[j]?).getD undef).toArray w' := by
      intro w' hw'
      unfold Builtin.firstCells
      simp only []
      refine loadCells_run _ fun j hj => ?_
      have : j < arr.size := by omega
      rw [cell_heap hw']
      simp [World.cell?, e2, this]
    obtain ⟨k, rest, hk, hrest, hrun⟩ := append_out (P := P) (w := w) (w₀ := w) (ty := o.type) (A := some ⟨c, 0, none⟩) (A' := A') (n := n) (c := cap) (n' := n') (c' := c') h1 h2 h3 h4 h5 (by omega) hb hb0 hz1 hold hvs1 rfl
    generalize hARR : ((List.range (n * tsize P (telem P t))).map fun j => (arr[j]?).getD undef).toArray ++ vs ++ rest = ARR at hrun
    have hsz1 : ((List.range (n * tsize P (telem P t))).map fun j => (arr[j]?).getD undef).toArray.size = n * tsize P (telem P t) := by simp
    have hARRs : ARR.size = k * tsize P (telem P t) := by
      rw [← hARR]
      simp only [Array.size_append, hsz1]
      rw [hrest, hvs2, hfl, hzs, ← Nat.add_mul, ← Nat.add_mul]
      congr 1; omega
    have hok : ∀ m, ok m → m < w.heap.size := fun m hm => (h.okR m hm).1
    have hρ : ∀ b' m, b' ≠ b → ρ b' = some m → ext ρ b (some w.heap.size) b' = some m := fun b' m hne hm => by simp [ext, hne, hm]
    have hkp := keeps_push (w := w) (o := .cells ARR (telem P t)) hok
    have hlast : ∀ m, m < w.heap.size → (w.heap.push (.cells ARR (telem P t)))[m]? = w.heap[m]? := fun m hm => by simp [Array.getElem?_push, Nat.ne_of_lt hm]
    have hsP : ∀ m el k, w.shape? m = some (el, k) → ({ w with heap := w.heap.push (.cells ARR (telem P t)) } : World).shape? m = some (el, k) := shape_push
    refine ⟨.slice (some ⟨w.heap.size, 0, none⟩) (n + n') k, _, ext ρ b (some w.heap.size), ok, execOp_append ho (by rw [hvx, hvy]; exact hrun), .one (.vec (c := w.heap.size) (n := ARR.size) (by simp [ext]) hk ⟨telem P t, by simp [World.shape?]⟩ (by rw [hARRs]; omega)), ?_, ?_⟩
    · have main : SR (ext ρ b (some w.heap.size)) ok (σ.renew b (cs.map (jC b) ++ ys.map (jC b))) a { w with heap := w.heap.push (.cells ARR (telem P t)) } := by
        refine ⟨⟨fun b' cs' hb' => ?_, fun b' hb' => ?_, fun b1 b2 m h1 h2 => ?_, fun m hm => ⟨by have := hok m hm; simp; omega, fun b' hb' => ?_⟩⟩, h.size, fun t' => ?_, h.defers, h.small⟩
        · simp only [renew_H] at hb'
          split at hb'
          · subst b'; cases hb'
            refine ⟨w.heap.size, ARR, telem P t, by simp [ext], by simp, by rw [hARRs]; simp only [List.length_append, List.length_map, hn, hfl, ← Nat.add_mul]; exact Nat.mul_le_mul_right _ hk, fun j hj hj' => ?_⟩
            subst hARR
            by_cases hjn : j < cs.length
            · rw [List.getElem_append_left (by simpa using hjn)]
              rw [Array.getElem_append_left (by simp; omega), Array.getElem_append_left (by simp; omega)]
              simp only [List.getElem_map, List.getElem_toArray, List.getElem_range]
              have hlt : j < arr.size := by omega
              have := e4 j hjn hlt
              rw [show (arr[j]?).getD undef = arr[j] by simp [hlt]]
              exact (this.mono (ρ' := ρ) hkp (fun _ h => h) hsP (fun _ _ h => h)).junked hρ
            · have hj4 : j < cs.length + ys.length := by have := hj; simp only [List.length_append, List.length_map] at this; exact this
              rw [List.getElem_append_right (by simpa using hjn)]
              rw [Array.getElem_append_left (by rw [Array.size_append, hsz1]; omega), Array.getElem_append_right (by rw [hsz1]; omega)]
              have hr := (hvs3 (j - n * tsize P (telem P t)) (by omega) (by omega)).mono (ρ' := ρ) hkp (fun _ h => h) hsP (fun _ _ h => h)
              simp only [List.getElem_map, List.length_map, hsz1, hn]
              exact hr.junked hρ
          · rename_i hne
            simp only [Option.map_eq_some_iff] at hb'
            obtain ⟨cs0, hb0', rfl⟩ := hb'
            obtain ⟨c2, arr2, el2, f1, f2, f3, f4⟩ := h.heap b' cs0 hb0'
            refine ⟨c2, arr2, el2, hρ _ _ hne f1, by rw [hlast c2 (himg h.toHR f1)]; exact f2, by simpa using f3, fun j hj hj' => ?_⟩
            simp only [List.getElem_map]
            exact ((f4 j (by simpa using hj) hj').mono (ρ' := ρ) hkp (fun _ h => h) hsP (fun _ _ h => h)).junked hρ
        · simp only [renew_H] at hb'
          split at hb'
          · cases hb'
          · rename_i hne; simp only [Option.map_eq_none_iff] at hb'; simp [ext, hne, h.dom b' hb']
        · simp only [ext] at h1 h2
          split at h1 <;> split at h2
          · subst b1; subst b2; rfl
          · cases h1; have := himg h.toHR h2; omega
          · cases h2; have := himg h.toHR h1; omega
          · exact h.inj b1 b2 m h1 h2
        · simp only [ext] at hb'
          split at hb'
          · cases hb'; have := hok _ hm; omega
          · exact (h.okR m hm).2 b' hb'
        · simp only [renew_s]
          exact (h.lift (ρ' := ρ) hkp (fun _ h => h) hsP (fun _ _ h => h) t').junked hρ
      exact main.drawn.1
    · refine ⟨by simp, fun m hm _ => hlast m hm, hsP, fun b' m hb' => ?_, fun _ h => h, fun _ h => .inl h, fun b' hb' => .inl (by unfold ext; rw [if_neg (by omega)]), ⟨rfl, rfl⟩⟩
      simp only [ext] at hb'
      split at hb'
      · cases hb'; exact .inr (Nat.le_refl _)
      · exact .inl ⟨b', hb'⟩

end
/-! Families of blocks: block b + i holds the cells of row i. -/
def famE {α : Type} (b : Nat) (f : α → List T) (rows : Nat → List α) (n : Nat) : List (Nat × List C) := (List.range n).map fun i => (b + i, cellsL f (rows i))
def famD (b n : Nat) : List Nat := (List.range n).map (b + ·)
/-- Rows as cells. -/
def rowsC (b sz len n : Nat) : List C := (List.range n).map fun i => .vec (b + i) sz 0 len
theorem lookH_famL {α : Type} {b : Nat} {f : α → List T} {rows : Nat → List α} {h : List (Nat × List C)} {t : Nat} : ∀ (l : List Nat), lookH (l.map (fun i => (b + i, cellsL f (rows i))) ++ h) t = if b ≤ t ∧ t - b ∈ l then some (cellsL f (rows (t - b))) else lookH h t
  | [] => by simp
  | i :: l => by
    show (if t = b + i then some (cellsL f (rows i)) else lookH (l.map (fun i => (b + i, cellsL f (rows i))) ++ h) t) = _
    rw [lookH_famL l]
    by_cases e : t = b + i
    · subst e
      have e2 : b + i - b = i := by omega
      rw [if_pos rfl, e2, if_pos ⟨by omega, by simp⟩]
    · rw [if_neg e]
      by_cases c : b ≤ t ∧ t - b ∈ l
      · rw [if_pos c, if_pos ⟨c.1, by simp [c.2]⟩]
      · rw [if_neg c, if_neg (fun c2 => by
          rcases List.mem_cons.1 c2.2 with h | h
          · omega
          · exact c ⟨c2.1, h⟩)]
@[go_sem] theorem lookH_fam {α : Type} {b n : Nat} {f : α → List T} {rows : Nat → List α} {h : List (Nat × List C)} {t : Nat} : lookH (famE b f rows n ++ h) t = if b ≤ t ∧ t < b + n then some (cellsL f (rows (t - b))) else lookH h t := by
  unfold famE
  rw [lookH_famL]
  by_cases c : b ≤ t ∧ t < b + n
  · rw [if_pos c, if_pos ⟨c.1, by rw [List.mem_range]; omega⟩]
  · rw [if_neg c, if_neg (fun c2 => c ⟨c2.1, by have := List.mem_range.1 c2.2; omega⟩)]
theorem AllH_famL {α : Type} {b : Nat} {f : α → List T} {rows : Nat → List α} {h : List (Nat × List C)} {σ : St} : ∀ (l : List Nat), AllH σ (l.map (fun i => (b + i, cellsL f (rows i))) ++ h) = ((∀ i ∈ l, σ.H (b + i) = some (cellsL f (rows i))) ∧ AllH σ h)
  | [] => by simp
  | i :: l => by
    show (σ.H (b + i) = some (cellsL f (rows i)) ∧ AllH σ (l.map (fun i => (b + i, cellsL f (rows i))) ++ h)) = _
    rw [AllH_famL l]; simp [and_assoc]
@[go_sem] theorem AllH_fam {α : Type} {b n : Nat} {f : α → List T} {rows : Nat → List α} {h : List (Nat × List C)} {σ : St} : AllH σ (famE b f rows n ++ h) = ((∀ i, i < n → σ.H (b + i) = some (cellsL f (rows i))) ∧ AllH σ h) := by
  unfold famE
  rw [AllH_famL]; simp
@[go_sem] theorem map_famE {α : Type} {b n : Nat} {f : α → List T} {rows : Nat → List α} : (famE b f rows n).map (fun p => p.1) = famD b n := by unfold famE famD; rw [List.map_map]; rfl
@[go_sem] theorem map_famE' {α : Type} {b n : Nat} {f : α → List T} {rows : Nat → List α} : (famE b f rows n).map Prod.fst = famD b n := by unfold famE famD; rw [List.map_map]; rfl
theorem refsH_append {D : List Nat} : ∀ (l h : List (Nat × List C)), refsH D (l ++ h) = (refsH D l && refsH D h)
  | [], h => by simp [refsH]
  | (k, v) :: l, h => by show (v.all (refsC D) && refsH D (l ++ h)) = ((v.all (refsC D) && refsH D l) && refsH D h); rw [refsH_append l h, Bool.and_assoc]
@[go_sem] theorem refsH_fam {α : Type} {b n : Nat} {f : α → List T} {rows : Nat → List α} {h : List (Nat × List C)} {D : List Nat} : refsH D (famE b f rows n ++ h) = refsH D h := by
  rw [refsH_append]
  have : refsH D (famE b f rows n) = true := by
    unfold famE
    generalize List.range n = l
    induction l with
    | nil => rfl
    | cons i l ih => show ((cellsL f (rows i)).all (refsC D) && refsH D (l.map fun i => (b + i, cellsL f (rows i)))) = true; rw [ih, cellsL_refs]; rfl
  rw [this, Bool.true_and]
@[go_sem] theorem contains_fam {b n t : Nat} {D : List Nat} : (famD b n ++ D).contains t = ((decide (b ≤ t) && decide (t < b + n)) || D.contains t) := by
  have h : (famD b n).contains t = (decide (b ≤ t) && decide (t < b + n)) := by
    rw [Bool.eq_iff_iff, List.contains_iff_mem, Bool.and_eq_true, decide_eq_true_eq, decide_eq_true_eq]
    unfold famD
    rw [List.mem_map]
    constructor
    · rintro ⟨i, hi, rfl⟩; have := List.mem_range.1 hi; omega
    · intro h; exact ⟨t - b, List.mem_range.2 (by omega), by omega⟩
  rw [Bool.eq_iff_iff, Bool.or_eq_true, ← h, List.contains_iff_mem, List.contains_iff_mem, List.contains_iff_mem, List.mem_append]
@[go_sem] theorem rowsC_refs {b sz len n : Nat} {D : List Nat} : (rowsC b sz len n).all (refsC (famD b n ++ D)) = true := by
  unfold rowsC
  rw [List.all_eq_true]
  intro c hc
  obtain ⟨i, hi, rfl⟩ := List.mem_map.1 hc
  show (famD b n ++ D).contains (b + i) = true
  rw [contains_fam]
  have := List.mem_range.1 hi
  simp; left; omega
theorem rowsC_refs' {b sz len n : Nat} {D : List Nat} (h : ∀ i, i < n → b + i ∈ D) : (rowsC b sz len n).all (refsC D) = true := by
  unfold rowsC
  rw [List.all_eq_true]
  intro c hc
  obtain ⟨i, hi, rfl⟩ := List.mem_map.1 hc
  show D.contains (b + i) = true
  rw [List.contains_iff_mem]; exact h i (List.mem_range.1 hi)
theorem rowsC_len {b sz len n : Nat} : (rowsC b sz len n).length = n := by unfold rowsC; simp
theorem rowsC_at {b sz len n i : Nat} (h : i < n) : (rowsC b sz len n).drop i = .vec (b + i) sz 0 len :: (rowsC b sz len n).drop (i + 1) := by
  rw [List.drop_eq_getElem_cons (by rw [rowsC_len]; exact h)]
  congr 1
  have h' : i < ((List.range n).map fun i => C.vec (b + i) sz 0 len).length := by simpa using h
  show ((List.range n).map fun i => C.vec (b + i) sz 0 len)[i]'h' = _
  simp
theorem rowsC_succ {b sz len n : Nat} : rowsC b sz len n ++ [.vec (b + n) sz 0 len] = rowsC b sz len (n + 1) := by
  unfold rowsC; rw [List.range_succ, List.map_append]; rfl
theorem rowsC_th {b sz len n : Nat} {θ : Nat → Nat} (h : ∀ i, i < n → thI θ (b + i) = thI θ b + i) : (rowsC b sz len n).map (thC θ) = rowsC (thI θ b) sz len n := by
  unfold rowsC
  rw [List.map_map]
  exact List.map_congr_left fun i hi => by show C.vec (thI θ (b + i)) sz 0 len = _; rw [h i (List.mem_range.1 hi)]
/-- A reading contract on blocks PIN, PIN + 1, .. as a step. -/
theorem rd_ren {P : Program} {f : FuncId} {args : List AV} {X H : Heap} {r : AV} (θ : Nat → Nat) (h : MCall P f args X r X)
    (hlow : ∀ b, b < PIN → X b = none)
    (hinj : ∀ b b', X b ≠ none → X b' ≠ none → thI θ b = thI θ b' → b = b')
    (hcl : ∀ b cs, X b = some cs → ∀ c ∈ cs, inC X c) (hargs : ∀ x ∈ args, inA X x)
    (hH : ∀ b cs, X b = some cs → H (thI θ b) = some (cs.map (thC θ))) : RdC P f (args.map (thA θ)) H (thA θ r) :=
  fun H' hH' => h.ren θ hlow (fun _ => Iff.rfl) hinj hcl hargs (fun b cs hb => hH' _ _ (hH b cs hb)) (fun b cs hb => hH' _ _ (hH b cs hb)) fun _ _ => rfl
theorem call_rd {P : Program} {f : FuncId} {as : List AV} {r : AV} {σ : St} {K : AV → St → Prop} (h : RdC P f as σ.H r) (hK : K r σ) : CallA P 3 f as σ K := .inr (.inr (.inr ⟨rfl, r, h, hK⟩))
end Go.Abs
namespace Go.Abs
open Go
/-! ### Other names for blocks; functions that answer with new memory of several blocks -/
def rnC (φ : Nat → Nat) : C → C
  | .t x => .t x
  | .ptr b o => .ptr (φ b) o
  | .vec b s o n => .vec (φ b) s o n
  | .fn f caps => .fn f (caps.map fun p => (φ p.1, p.2))
def rnA (φ : Nat → Nat) : AV → AV
  | .one c => .one (rnC φ c)
  | .agg cs => .agg (cs.map (rnC φ))
  | .iptr cs => .iptr cs
  | .tup xs => .tup (rnAs xs)
  | .junk => .junk
where rnAs : List AV → List AV
  | [] => []
  | x :: l => rnA φ x :: rnAs l
theorem rnAs_map {φ : Nat → Nat} : ∀ xs : List AV, rnA.rnAs φ xs = xs.map (rnA φ)
  | [] => rfl
  | x :: l => by show rnA φ x :: rnA.rnAs φ l = _; rw [rnAs_map l]; rfl
section
variable {w : World} {ok : Nat → Prop} {ρ ρ' : Nat → Option Nat} {φ : Nat → Nat} {X : Heap}
theorem RC.rn (hρ : ∀ b c, ρ b = some c → ρ' (φ b) = some c) {x : C} {v : Value} (h : RC w ok ρ x v) : RC w ok ρ' (rnC φ x) v := by
  cases h with
  | t h => exact .t h
  | ptr h => exact .ptr (hρ _ _ h)
  | vec h h1 h2 h3 => exact .vec (hρ _ _ h) h1 h2 h3
  | fn h h1 =>
    refine .fn (by simpa using h) fun i hi1 hi2 => ?_
    simp only [List.length_map] at hi1
    obtain ⟨c, h2, h3⟩ := h1 i hi1 hi2
    simp only [List.getElem_map]
    exact ⟨c, hρ _ _ h2, h3⟩
theorem RC.rnX (hρ : ∀ b c, X b ≠ none → ρ b = some c → ρ' (φ b) = some c) {x : C} {v : Value} (hi : inC X x) (h : RC w ok ρ x v) : RC w ok ρ' (rnC φ x) v := by
  cases h with
  | t h => exact .t h
  | ptr h => exact .ptr (hρ _ _ hi h)
  | vec h h1 h2 h3 => exact .vec (hρ _ _ hi h) h1 h2 h3
  | fn h h1 =>
    refine .fn (by simpa using h) fun i hi1 hi2 => ?_
    simp only [List.length_map] at hi1
    obtain ⟨c, h2, h3⟩ := h1 i hi1 hi2
    simp only [List.getElem_map]
    exact ⟨c, hρ _ _ (hi _ (List.getElem_mem hi1)) h2, h3⟩
theorem RA.rn' (hρ : ∀ b c, ρ b = some c → ρ' (φ b) = some c) : ∀ (x : AV) (v : Value), RA w ok ρ x v → RA w ok ρ' (rnA φ x) v
  | .one c, v, h => by
    cases h with | one h => exact .one (h.rn hρ)
  | .agg cs, v, h => by
    cases h with
    | agg h h1 =>
      refine .agg (by simpa using h) fun j hj hj' => ?_
      simp only [List.length_map] at hj
      simp only [List.getElem_map]
      exact (h1 j hj hj').rn hρ
  | .iptr cs, v, h => by
    cases h with | iptr h1 h2 h3 => exact .iptr h1 h2 h3
  | .tup xs, v, h => by
    have e : rnA φ (.tup xs) = .tup (xs.map (rnA φ)) := by show AV.tup _ = _; rw [rnAs_map]
    rw [e]
    cases h with
    | tup h h1 =>
      refine .tup (by rw [List.length_map]; exact h) fun j hj hj' => ?_
      simp only [List.length_map] at hj
      simp only [List.getElem_map]
      have : SizeOf.sizeOf xs[j] < 1 + SizeOf.sizeOf xs := by have := List.sizeOf_lt_of_mem (List.getElem_mem hj); omega
      exact RA.rn' hρ _ _ (h1 j hj hj')
  | .junk, v, h => by
    exact .junk
termination_by x => SizeOf.sizeOf x
theorem RA.rn (hρ : ∀ b c, ρ b = some c → ρ' (φ b) = some c) {x : AV} {v : Value} (h : RA w ok ρ x v) : RA w ok ρ' (rnA φ x) v := RA.rn' hρ x v h
theorem RA.rnX' (hρ : ∀ b c, X b ≠ none → ρ b = some c → ρ' (φ b) = some c) : ∀ (x : AV) (v : Value), inA X x → RA w ok ρ x v → RA w ok ρ' (rnA φ x) v
  | .one c, v, hi, h => by
    cases h with | one h => exact .one (h.rnX hρ hi)
  | .agg cs, v, hi, h => by
    cases h with
    | agg h h1 =>
      refine .agg (by simpa using h) fun j hj hj' => ?_
      simp only [List.length_map] at hj
      simp only [List.getElem_map]
      exact (h1 j hj hj').rnX hρ (hi _ (List.getElem_mem hj))
  | .iptr cs, v, hi, h => by
    cases h with | iptr h1 h2 h3 => exact .iptr h1 h2 h3
  | .tup xs, v, hi, h => by
    have e : rnA φ (.tup xs) = .tup (xs.map (rnA φ)) := by show AV.tup _ = _; rw [rnAs_map]
    rw [e]
    cases h with
    | tup h h1 =>
      refine .tup (by rw [List.length_map]; exact h) fun j hj hj' => ?_
      simp only [List.length_map] at hj
      simp only [List.getElem_map]
      have : SizeOf.sizeOf xs[j] < 1 + SizeOf.sizeOf xs := by have := List.sizeOf_lt_of_mem (List.getElem_mem hj); omega
      exact RA.rnX' hρ _ _ (inAs_get hi _ (List.getElem_mem hj)) (h1 j hj hj')
  | .junk, v, hi, h => by
    exact .junk
termination_by x => SizeOf.sizeOf x
theorem RA.rnX (hρ : ∀ b c, X b ≠ none → ρ b = some c → ρ' (φ b) = some c) {x : AV} {v : Value} (hi : inA X x) (h : RA w ok ρ x v) : RA w ok ρ' (rnA φ x) v := RA.rnX' hρ x v hi h
end
open Classical in
/-- The block that is named x now. -/
noncomputable def whoN (H : Heap) (φ : Nat → Nat) (ρ ρ0 : Nat → Option Nat) : Nat → Option Nat := fun x => if h : ∃ b, H b ≠ none ∧ φ b = x then ρ (Classical.choose h) else ρ0 x
theorem whoN_at {H : Heap} {φ : Nat → Nat} {ρ ρ0 : Nat → Option Nat} (hinj : ∀ b b', H b ≠ none → H b' ≠ none → φ b = φ b' → b = b') {b : Nat} (hb : H b ≠ none) : whoN H φ ρ ρ0 (φ b) = ρ b := by
  have h : ∃ b', H b' ≠ none ∧ φ b' = φ b := ⟨b, hb, rfl⟩
  unfold whoN
  rw [dif_pos h]
  have h2 := Classical.choose_spec h
  rw [hinj _ _ h2.1 hb h2.2]
theorem whoN_no {H : Heap} {φ : Nat → Nat} {ρ ρ0 : Nat → Option Nat} {x : Nat} (h : ∀ b, H b ≠ none → φ b ≠ x) : whoN H φ ρ ρ0 x = ρ0 x := by
  unfold whoN
  rw [dif_neg (fun ⟨b, h1, h2⟩ => h b h1 h2)]
theorem whoN_cases {H : Heap} {φ : Nat → Nat} {ρ ρ0 : Nat → Option Nat} {x n : Nat} (hinj : ∀ b b', H b ≠ none → H b' ≠ none → φ b = φ b' → b = b') (h : whoN H φ ρ ρ0 x = some n) : (∃ b, H b ≠ none ∧ φ b = x ∧ ρ b = some n) ∨ ((∀ b, H b ≠ none → φ b ≠ x) ∧ ρ0 x = some n) := by
  by_cases hx : ∃ b, H b ≠ none ∧ φ b = x
  · obtain ⟨b, hb, rfl⟩ := hx
    rw [whoN_at hinj hb] at h
    exact .inl ⟨b, hb, rfl, h⟩
  · have hx2 : ∀ b, H b ≠ none → φ b ≠ x := fun b h1 h2 => hx ⟨b, h1, h2⟩
    rw [whoN_no hx2] at h
    exact .inr ⟨hx2, h⟩
/-- Blocks may be named anew. -/
theorem gstep_ren {σ σ' : St} (φ : Nat → Nat) (hn : σ'.n = σ.n) (hinj : ∀ b b', σ.H b ≠ none → σ.H b' ≠ none → φ b = φ b' → b = b') (hpin : ∀ b, PIN ≤ φ b → φ b = b)
    (hH : ∀ b cs, σ.H b = some cs → σ'.H (φ b) = some (cs.map (rnC φ))) (hH2 : ∀ x, (∀ b, σ.H b ≠ none → φ b ≠ x) → σ'.H x = none) (hs : ∀ t, σ'.s t = rnA φ (σ.s t)) : GStep σ σ' := by
  intro ρ ok a w s
  have hat : ∀ b c, ρ b = some c → whoN σ.H φ ρ noρ (φ b) = some c := fun b c hb => by
    have h1 : σ.H b ≠ none := fun e => by rw [s.dom b e] at hb; cases hb
    rw [whoN_at hinj h1]; exact hb
  refine ⟨whoN σ.H φ ρ noρ, ok, ⟨⟨fun x cs hx => ?_, fun x hx => ?_, fun x y c hx hy => ?_, fun n hn => ⟨(s.okR n hn).1, fun x hx => ?_⟩⟩, by rw [s.size, hn], fun t => ?_, s.defers, by rw [hn]; exact s.small⟩,
    ⟨Nat.le_refl _, fun _ _ _ => rfl, fun _ _ _ h => h, fun x n hx => ?_, fun _ h => h, fun _ h => .inl h, fun x hx => ?_, ⟨rfl, rfl⟩⟩⟩
  · by_cases he : ∃ b, σ.H b ≠ none ∧ φ b = x
    · obtain ⟨b, hb, rfl⟩ := he
      obtain ⟨cs0, hcs0⟩ := Option.ne_none_iff_exists'.1 hb
      rw [hH b cs0 hcs0] at hx
      cases hx
      obtain ⟨c, arr, el, h1, h2, h3, h4⟩ := s.heap b cs0 hcs0
      refine ⟨c, arr, el, hat b c h1, h2, by simpa using h3, fun j hj hj' => ?_⟩
      simp only [List.length_map] at hj
      simp only [List.getElem_map]
      exact (h4 j hj hj').rn hat
    · rw [hH2 x (fun b h1 h2 => he ⟨b, h1, h2⟩)] at hx; cases hx
  · rcases hw : whoN σ.H φ ρ noρ x with _ | n
    · rfl
    · rcases whoN_cases hinj hw with ⟨b, hb, rfl, _⟩ | ⟨_, h⟩
      · obtain ⟨cs0, hcs0⟩ := Option.ne_none_iff_exists'.1 hb
        rw [hH b cs0 hcs0] at hx; cases hx
      · cases h
  · rcases whoN_cases hinj hx with ⟨b, hb, rfl, h1⟩ | ⟨_, h⟩
    · rcases whoN_cases hinj hy with ⟨b', hb', rfl, h2⟩ | ⟨_, h⟩
      · rw [s.inj b b' c h1 h2]
      · cases h
    · cases h
  · rcases whoN_cases hinj hx with ⟨b, _, _, h1⟩ | ⟨_, h⟩
    · exact (s.okR n hn).2 b h1
    · cases h
  · rw [hs]; exact (s.slots t).rn hat
  · rcases whoN_cases hinj hx with ⟨b, _, _, h1⟩ | ⟨_, h⟩
    · exact .inl ⟨b, h1⟩
    · cases h
  · rcases hw : whoN σ.H φ ρ noρ x with _ | n
    · exact .inr rfl
    · rcases whoN_cases hinj hw with ⟨b, hb, e, h1⟩ | ⟨_, h⟩
      · have : φ b = b := hpin b (by omega)
        have : b = x := by omega
        subst this
        exact .inl h1.symm
      · cases h
variable {P : Program}
/-- A function that answers with new memory. -/
def NCall (P : Program) (f : FuncId) (args : List TV) (X : Heap) (r : AV) : Prop :=
  ∀ (H H' : Heap) (φ : Nat → Nat), (∀ b, X b ≠ none → H (φ b) = none ∧ φ b < PIN) → (∀ b b', X b ≠ none → X b' ≠ none → φ b = φ b' → b = b') →
    (∀ b cs, X b = some cs → H' (φ b) = some (cs.map (rnC φ))) → (∀ x, (∀ b, X b ≠ none → φ b ≠ x) → H' x = H x) → MCall P f (args.map emb) H (rnA φ r) H'
def nretQ (P : Program) (rs : List ResultVar) (X : Heap) (r : AV) (e : Exit) (σ : St) : Prop :=
  (e = .normal ∨ e = .ret) ∧ (∀ x ∈ rs, resOk P σ x) ∧ retA P rs σ = r ∧ ∀ b cs, X b = some cs → σ.H b = some cs
theorem ncall_of_wpA (hm : P.follows .mixedOrders = true) {f : FuncId} {fn : Func} {c : Code} {k : Nat} {rs : List ResultVar} {args : List TV} {X : Heap} {r : AV} (hent : ∀ (as : Array Value) w, (callFunc f as).run P w = .ok (.enter f as) w) (hf : P.funcs[f]? = some fn)
    (hb : fn.body = some c) (hn : fn.ntmps = k) (hrs : fn.results = rs.toArray) (hl : args.length ≤ k) (hsm : k ≤ PIN) (hcl : ∀ b cs, X b = some cs → ∀ c ∈ cs, inC X c) (hr : inA X r)
    (h : wpA P c (nretQ P rs X r) (initSt k (args.map emb) noH)) : NCall P f args X r := by
  subst hn
  have e : fn.results.toList = rs := by rw [hrs]
  subst e
  intro H H' φ hfree hinj hH1 hH2
  refine ⟨hent, fun ρ ok w vs hH hv => ?_⟩
  have hv0 : RArgs w ok noρ (args.map emb) vs := by
    refine ⟨hv.1, fun i hi hi' => ?_⟩
    have := hv.2 i hi hi'
    simp only [List.getElem_map] at this ⊢
    exact RA_tree this _ rfl
  refine calls_of_wp hf hb (Code.wp_mono ?_ (code_sound hm c _ _ noρ ok _ w (init_SR ⟨fun b cs hb => (by cases hb), fun _ _ => rfl, fun _ _ _ h => (by cases h), fun n hn => ⟨(hH.okR n hn).1, fun _ h => (by cases h)⟩⟩ hv0 (by rw [hv0.1]; simpa using hl) hsm) h))
  rintro e' a w' ⟨σ, ρ1, ok1, ⟨he, hres, hret, hX⟩, s, g⟩
  obtain ⟨v, r1, r2⟩ := results_sound s hres
  rw [hret] at r2
  have hnew : ∀ b c, ρ1 b = some c → w.heap.size ≤ c := fun b c hb => by
    rcases g.img b c hb with ⟨b', h1⟩ | h1
    · cases h1
    · exact h1
  have hsame : ∀ n, n < w.heap.size → w'.heap[n]? = w.heap[n]? := fun n hn => g.same n hn (fun b e => by cases e)
  have himgρ : ∀ x n, ρ x = some n → n < w.heap.size := fun x n hx => himg (σ := ⟨0, fun _ => .junk, H⟩) hH hx
  have hk : Keeps ok w w' := fun n hn => hsame n (hH.okR n hn).1
  have hat : ∀ b c, X b ≠ none → ρ1 b = some c → whoN X φ ρ1 ρ (φ b) = some c := fun b c hb hc => by rw [whoN_at hinj hb]; exact hc
  have hext : ∀ x y, ρ x = some y → whoN X φ ρ1 ρ x = some y := fun x y hx => by
    rw [whoN_no (fun b hb e => ?_)]
    · exact hx
    · have := hH.dom _ (hfree b hb).1
      rw [e, hx] at this; cases this
  have main : ∃ v' ρ'' ok'', Ending.returned v = .returned v' ∧ RA w' ok'' ρ'' (rnA φ r) v' ∧ HR ρ'' ok'' H' w' ∧ Goes ρ ok w ρ'' ok'' w' ∧ ∀ b c, ρ b = some c → ρ'' b = some c := by
    refine ⟨v, whoN X φ ρ1 ρ, ok1, rfl, r2.rnX hat hr, ⟨fun x cs hx => ?_, fun x hx => ?_, fun x y n hx hy => ?_, fun n hn => ⟨(s.okR n hn).1, fun x hx => ?_⟩⟩, ⟨g.size, fun n hn _ => hsame n hn, g.shape, fun x n hx => ?_, g.up, fun n hn => ?_, fun x hx => ?_, g.env⟩, hext⟩
    · by_cases hx2 : ∃ b, X b ≠ none ∧ φ b = x
      · obtain ⟨b, hb, rfl⟩ := hx2
        obtain ⟨cs0, hcs0⟩ := Option.ne_none_iff_exists'.1 hb
        rw [hH1 b cs0 hcs0] at hx
        cases hx
        obtain ⟨c, arr, el, h1, h2, h3, h4⟩ := s.heap b cs0 (hX b cs0 hcs0)
        refine ⟨c, arr, el, hat b c hb h1, h2, by simpa using h3, fun j hj hj' => ?_⟩
        simp only [List.length_map] at hj
        simp only [List.getElem_map]
        exact (h4 j hj hj').rnX hat (hcl b cs0 hcs0 _ (List.getElem_mem hj))
      · rw [hH2 x fun b h1 h2 => hx2 ⟨b, h1, h2⟩] at hx
        obtain ⟨cx, ax, ex, q1, q2, q3, q4⟩ := hH.heap x cs hx
        exact ⟨cx, ax, ex, hext _ _ q1, by rw [hsame cx (himgρ _ _ q1)]; exact q2, q3, fun j hj hj' => (q4 j hj hj').mono hk g.up g.shape hext⟩
    · rcases hw : whoN X φ ρ1 ρ x with _ | n
      · rfl
      · rcases whoN_cases hinj hw with ⟨b, hb, rfl, _⟩ | ⟨h1, h2⟩
        · obtain ⟨cs0, hcs0⟩ := Option.ne_none_iff_exists'.1 hb
          rw [hH1 b cs0 hcs0] at hx; cases hx
        · rw [hH2 x h1] at hx
          rw [hH.dom x hx] at h2; cases h2
    · rcases whoN_cases hinj hx with ⟨b, hb, rfl, h1⟩ | ⟨_, h1⟩
      · rcases whoN_cases hinj hy with ⟨b', hb', rfl, h2⟩ | ⟨_, h2⟩
        · rw [s.inj b b' n h1 h2]
        · have := hnew _ _ h1; have := himgρ _ _ h2; omega
      · rcases whoN_cases hinj hy with ⟨b', hb', rfl, h2⟩ | ⟨_, h2⟩
        · have := hnew _ _ h2; have := himgρ _ _ h1; omega
        · exact hH.inj x y n h1 h2
    · rcases whoN_cases hinj hx with ⟨b, hb, rfl, h1⟩ | ⟨_, h1⟩
      · exact (s.okR n hn).2 b h1
      · rcases g.down n hn with k | ⟨b', k⟩ | k
        · exact (hH.okR n k).2 x h1
        · cases k
        · have := himgρ _ _ h1; omega
    · rcases whoN_cases hinj hx with ⟨b, hb, rfl, h1⟩ | ⟨_, h1⟩
      · exact .inr (hnew _ _ h1)
      · exact .inl ⟨x, h1⟩
    · rcases g.down n hn with k | ⟨b', k⟩ | k
      · exact .inl k
      · cases k
      · exact .inr (.inr k)
    · left
      exact whoN_no fun b hb e => by have := (hfree b hb).2; omega
  have hfin2 : a.defers = [] ∧ ∃ v, (results fn a.tmps).run P w' = .ok v w' ∧ ∃ v' ρ'' ok'', Ending.returned v = .returned v' ∧ RA w' ok'' ρ'' (rnA φ r) v' ∧ HR ρ'' ok'' H' w' ∧ Goes ρ ok w ρ'' ok'' w' ∧ ∀ b c, ρ b = some c → ρ'' b = some c :=
    ⟨s.defers, v, r1, main⟩
  rcases he with rfl | rfl <;> exact hfin2
theorem call_nc {m : Nat} {f : FuncId} {as : List AV} {tvs : List TV} {X H' : Heap} {r : AV} {σ : St} {K : AV → St → Prop} (φ : Nat → Nat) (hm : m = 1 ∨ m = 2) (h : NCall P f tvs X r) (has : as = tvs.map emb) (hfree : ∀ b, X b ≠ none → σ.H (φ b) = none ∧ φ b < PIN)
    (hinj : ∀ b b', X b ≠ none → X b' ≠ none → φ b = φ b' → b = b') (hH1 : ∀ b cs, X b = some cs → H' (φ b) = some (cs.map (rnC φ))) (hH2 : ∀ x, (∀ b, X b ≠ none → φ b ≠ x) → H' x = σ.H x) (hK : K (rnA φ r) (σ.withH H')) : CallA P m f as σ K :=
  has ▸ .inr (.inl ⟨hm, _, _, h σ.H H' φ hfree hinj hH1 hH2, hK⟩)
/-- A call that reads own blocks, in a region whose order is the text's. -/
theorem call_rd2 {m : Nat} {f : FuncId} {as : List AV} {r : AV} {σ : St} {K : AV → St → Prop} (hm : m = 1 ∨ m = 2) (h : RdC P f as σ.H r) (hK : K r σ) : CallA P m f as σ K :=
  .inr (.inl ⟨hm, _, _, h σ.H (fun _ _ h => h), hK⟩)
/-! Lists of one entry alone. -/
section
variable {α : Type} {b sz n t : Nat} {f : α → List T} {xs : List α} {rows : Nat → List α} {D : List Nat} {σ : St}
@[go_sem] theorem lookH_acc1 : lookH (accE b f xs) t = if t = b then accH f xs none else none := by
  have := lookH_acc (b := b) (f := f) (xs := xs) (l := []) (t := t); rwa [List.append_nil] at this
@[go_sem] theorem AllH_acc1 : AllH σ (accE b f xs) = (xs = [] ∨ σ.H b = some (cellsL f xs)) := by
  have := AllH_acc (b := b) (f := f) (xs := xs) (l := []) (σ := σ); rw [List.append_nil] at this; rw [this]; simp [AllH]
@[go_sem] theorem refsH_acc1 : refsH D (accE b f xs) = true := by
  have := refsH_acc (b := b) (f := f) (xs := xs) (l := []) (D := D); rw [List.append_nil] at this; rw [this]; rfl
@[go_sem] theorem contains_acc1 : (accD b xs).contains t = (t == b && !xs.isEmpty) := by
  have := contains_acc (b := b) (xs := xs) (D := []) (t := t); rw [List.append_nil] at this; rw [this]; simp
end
end Go.Abs
