/- At every input the call answers true and leaves its arguments as they were; no conditions. -/
import Derived.Orders
import Derived.Tactics
import Derived.Laws.Sem
import Derived.IntWalk
set_option linter.unusedSimpArgs false
set_option linter.unusedVariables false
namespace Go.Abs
open Go

/-- A tree: what lies in memory that nobody writes any more. -/
inductive T where
  | lit (v : Value)
  | seq (nl : Option Bool) (xs : List (List T))
  | clo (f : FuncId) (caps : List (List T))
  | junk
  deriving Inhabited

/-- A value of one cell. -/
def oneC : Value → Bool
  | .agg _ | .tuple _ => false
  | _ => true

def scalar : Value → Bool
  | .bool _ | .int _ _ | .string _ | .pointer none | .nilFunc | .nilIface => true
  | _ => false

inductive RT (w : World) (ok : Nat → Prop) : T → Value → Prop where
  | lit {v : Value} : scalar v = true → RT w ok (.lit v) v
  | junk {v : Value} : oneC v = true → RT w ok .junk v
  | seq {nl : Option Bool} {xs : List (List T)} {A : Option Addr} {n c sz : Nat} {u : Nat → Nat → Value} {blk off : Nat} :
      n = xs.length → n ≤ c → (A = none → c = 0) → (nl = some true → A = none) → (nl = some false → A ≠ none) →
      (∀ x ∈ xs, x.length = sz) →
      (xs ≠ [] → A = some ⟨blk, off, none⟩ ∧ ok blk) →
      (∀ i (hi : i < xs.length) j, j < xs[i].length → w.cell? ⟨blk, off + (i * sz + j), none⟩ = some (u i j)) →
      (∀ i (hi : i < xs.length) j (hj : j < xs[i].length), RT w ok (xs[i][j]) (u i j)) →
      RT w ok (.seq nl xs) (.slice A n c)
  | clo {f : FuncId} {caps : List (List T)} {vs : Array Value} {blk off : Nat → Nat} {u : Nat → Nat → Value} :
      vs.size = caps.length → (∀ i (_ : i < caps.length) (h' : i < vs.size), vs[i] = .pointer (some ⟨blk i, off i, none⟩) ∧ ok (blk i)) →
      (∀ i (hi : i < caps.length) j, j < caps[i].length → w.cell? ⟨blk i, off i + j, none⟩ = some (u i j)) →
      (∀ i (hi : i < caps.length) j (hj : j < caps[i].length), RT w ok (caps[i][j]) (u i j)) →
      RT w ok (.clo f caps) (.func (.func f) #[] vs)

/-- One cell of memory that is the walk's own, or of a value. -/
inductive C where
  | t (x : T)
  | ptr (b off : Nat)
  | vec (b sz off len : Nat)
  | fn (f : FuncId) (caps : List (Nat × Nat))
  deriving Inhabited

def shaped (w : World) (c n : Nat) : Prop := ∃ el, w.shape? c = some (el, n)

inductive RC (w : World) (ok : Nat → Prop) (ρ : Nat → Option Nat) : C → Value → Prop where
  | t {x : T} {v : Value} : RT w ok x v → RC w ok ρ (.t x) v
  | ptr {b off c : Nat} : ρ b = some c → RC w ok ρ (.ptr b off) (.pointer (some ⟨c, off, none⟩))
  | vec {b sz off len cap c n : Nat} : ρ b = some c → len ≤ cap → shaped w c n → off + cap * sz ≤ n →
      RC w ok ρ (.vec b sz off len) (.slice (some ⟨c, off, none⟩) len cap)
  | fn {f : FuncId} {caps : List (Nat × Nat)} {vs : Array Value} : vs.size = caps.length →
      (∀ i (h : i < caps.length) (h' : i < vs.size), ∃ c, ρ caps[i].1 = some c ∧ vs[i] = .pointer (some ⟨c, caps[i].2, none⟩)) →
      RC w ok ρ (.fn f caps) (.func (.func f) #[] vs)

inductive AV where
  | one (c : C)
  | agg (cs : List C)
  | iptr (cs : List T)
  | tup (vs : List AV)
  | junk
  deriving Inhabited

inductive RA (w : World) (ok : Nat → Prop) (ρ : Nat → Option Nat) : AV → Value → Prop where
  | one {c : C} {v : Value} : RC w ok ρ c v → RA w ok ρ (.one c) v
  | agg {cs : List C} {vs : Array Value} : vs.size = cs.length → (∀ j (h : j < cs.length) (h' : j < vs.size), RC w ok ρ cs[j] vs[j]) → RA w ok ρ (.agg cs) (.agg vs)
  | iptr {cs : List T} {blk off : Nat} {u : Nat → Value} : ok blk →
      (∀ j, j < cs.length → w.cell? ⟨blk, off + j, none⟩ = some (u j)) → (∀ j (h : j < cs.length), RT w ok cs[j] (u j)) →
      RA w ok ρ (.iptr cs) (.pointer (some ⟨blk, off, none⟩))
  | tup {xs : List AV} {vs : Array Value} : vs.size = xs.length → (∀ j (h : j < xs.length) (h' : j < vs.size), RA w ok ρ xs[j] vs[j]) → RA w ok ρ (.tup xs) (.tuple vs)
  | junk {v : Value} : RA w ok ρ .junk v

theorem scalar_oneCell {v : Value} (h : scalar v = true) : oneC v = true := by
  cases v <;> first | rfl | simp [scalar] at h

theorem RT.oneCell {w : World} {ok : Nat → Prop} {x : T} {v : Value} (h : RT w ok x v) : oneC v = true := by
  cases h with
  | lit h => exact scalar_oneCell h
  | junk h => exact h
  | seq => rfl
  | clo => rfl

theorem RC.oneCell {w : World} {ok : Nat → Prop} {ρ : Nat → Option Nat} {x : C} {v : Value} (h : RC w ok ρ x v) : oneC v = true := by
  cases h with
  | t h => exact h.oneCell
  | ptr => rfl
  | vec => rfl
  | fn => rfl

theorem cells_one {v : Value} (h : oneC v = true) : v.cells = #[v] := by
  cases v <;> first | rfl | simp [oneC] at h

/-! ### What turns, and what stays -/

/-- From here on blocks' names are not the walk's own. -/
abbrev PIN : Nat := 1000000

/-- From one state of memory to a later one: what is nobody's stays; new blocks; what is held may be let go. -/
structure Goes (ρ : Nat → Option Nat) (ok : Nat → Prop) (w : World) (ρ' : Nat → Option Nat) (ok' : Nat → Prop) (w' : World) : Prop where
  size : w.heap.size ≤ w'.heap.size
  same : ∀ n, n < w.heap.size → (∀ b, ρ b ≠ some n) → w'.heap[n]? = w.heap[n]?
  shape : ∀ n el k, w.shape? n = some (el, k) → w'.shape? n = some (el, k)
  img : ∀ b n, ρ' b = some n → (∃ b', ρ b' = some n) ∨ w.heap.size ≤ n
  up : ∀ n, ok n → ok' n
  down : ∀ n, ok' n → ok n ∨ (∃ b', ρ b' = some n) ∨ w.heap.size ≤ n
  pin : ∀ b, PIN ≤ b → ρ' b = ρ b ∨ ρ' b = none
  env : w'.os = w.os ∧ w'.output = w.output

theorem Goes.refl (ρ : Nat → Option Nat) (ok : Nat → Prop) (w : World) : Goes ρ ok w ρ ok w :=
  ⟨Nat.le_refl _, fun _ _ _ => rfl, fun _ _ _ h => h, fun b _ h => .inl ⟨b, h⟩, fun _ h => h, fun _ h => .inl h, fun _ _ => .inl rfl, ⟨rfl, rfl⟩⟩

theorem Goes.trans {ρ ρ₁ ρ₂ : Nat → Option Nat} {ok ok₁ ok₂ : Nat → Prop} {w w₁ w₂ : World} (h : Goes ρ ok w ρ₁ ok₁ w₁) (h' : Goes ρ₁ ok₁ w₁ ρ₂ ok₂ w₂) : Goes ρ ok w ρ₂ ok₂ w₂ where
  size := Nat.le_trans h.size h'.size
  same n hn hb := by
    rw [h'.same n (Nat.lt_of_lt_of_le hn h.size) (fun b hb' => ?_), h.same n hn hb]
    rcases h.img b n hb' with ⟨b', h1⟩ | h1
    · exact hb b' h1
    · omega
  shape n el k hs := h'.shape n el k (h.shape n el k hs)
  img b n hb := by
    rcases h'.img b n hb with ⟨b', h1⟩ | h1
    · exact h.img b' n h1
    · exact .inr (Nat.le_trans h.size h1)
  up n hn := h'.up n (h.up n hn)
  down n hn := by
    rcases h'.down n hn with h1 | ⟨b', h1⟩ | h1
    · exact h.down n h1
    · rcases h.img b' n h1 with h2 | h2
      · exact .inr (.inl h2)
      · exact .inr (.inr h2)
    · exact .inr (.inr (Nat.le_trans h.size h1))
  pin b hb := by
    rcases h'.pin b hb with h1 | h1
    · rw [h1]; exact h.pin b hb
    · exact .inr h1
  env := ⟨h'.env.1.trans h.env.1, h'.env.2.trans h.env.2⟩

/-- Where every block that 'ok' names reads as it did. -/
def Keeps (ok : Nat → Prop) (w w' : World) : Prop := ∀ n, ok n → w'.heap[n]? = w.heap[n]?

theorem Keeps.cell {ok : Nat → Prop} {w w' : World} (h : Keeps ok w w') {a : Addr} (ha : ok a.block) : w'.cell? a = w.cell? a := by
  simp only [World.cell?, h _ ha]

theorem RT.mono {w w' : World} {ok ok' : Nat → Prop} (hk : Keeps ok w w') (hup : ∀ n, ok n → ok' n) {x : T} {v : Value} (h : RT w ok x v) : RT w' ok' x v := by
  induction h with
  | lit h => exact .lit h
  | junk h => exact .junk h
  | @seq nl xs A n c sz u blk off h1 h2 h0 h3 h4 h5 h6 h7 h8 ih =>
    refine .seq (u := u) (blk := blk) (off := off) h1 h2 h0 h3 h4 h5 (fun hx => ⟨(h6 hx).1, hup _ (h6 hx).2⟩) (fun i hi j hj => ?_) (fun i hi j hj => ih i hi j hj)
    have hx : xs ≠ [] := by intro e; subst e; simp at hi
    exact (hk.cell (a := ⟨blk, _, none⟩) (h6 hx).2).trans (h7 i hi j hj)
  | @clo f caps vs blk off u h1 h2 h3 h4 ih =>
    refine .clo (u := u) (blk := blk) (off := off) h1 (fun i hi hi' => ⟨(h2 i hi hi').1, hup _ (h2 i hi hi').2⟩) (fun i hi j hj => ?_) (fun i hi j hj => ih i hi j hj)
    exact (hk.cell (a := ⟨blk i, _, none⟩) (h2 i hi (by omega)).2).trans (h3 i hi j hj)

theorem RC.mono {w w' : World} {ok ok' : Nat → Prop} {ρ ρ' : Nat → Option Nat} (hk : Keeps ok w w') (hup : ∀ n, ok n → ok' n)
    (hs : ∀ n el k, w.shape? n = some (el, k) → w'.shape? n = some (el, k)) (hρ : ∀ b c, ρ b = some c → ρ' b = some c) {x : C} {v : Value} (h : RC w ok ρ x v) : RC w' ok' ρ' x v := by
  cases h with
  | t h => exact .t (h.mono hk hup)
  | ptr h => exact .ptr (hρ _ _ h)
  | vec h h1 h2 h3 => exact .vec (hρ _ _ h) h1 (h2.imp fun el he => hs _ _ _ he) h3
  | fn h h1 => exact .fn h fun i hi hi' => let ⟨c, h2, h3⟩ := h1 i hi hi'; ⟨c, hρ _ _ h2, h3⟩

theorem RA.mono {w w' : World} {ok ok' : Nat → Prop} {ρ ρ' : Nat → Option Nat} (hk : Keeps ok w w') (hup : ∀ n, ok n → ok' n)
    (hs : ∀ n el k, w.shape? n = some (el, k) → w'.shape? n = some (el, k)) (hρ : ∀ b c, ρ b = some c → ρ' b = some c) {x : AV} {v : Value} (h : RA w ok ρ x v) : RA w' ok' ρ' x v := by
  induction h with
  | one h => exact .one (h.mono hk hup hs hρ)
  | agg h h1 => exact .agg h fun j hj hj' => (h1 j hj hj').mono hk hup hs hρ
  | iptr h1 h2 h3 => exact .iptr (hup _ h1) (fun j hj => (hk.cell (a := ⟨_, _, none⟩) h1).trans (h2 j hj)) fun j hj => (h3 j hj).mono hk hup
  | tup h _ ih => exact .tup h fun j hj hj' => ih j hj hj'
  | junk => exact .junk

end Go.Abs
namespace Go.Abs
open Go

/-! ### The state of a walk -/
abbrev Heap := Nat → Option (List C)

structure St where
  n : Nat
  s : Nat → AV
  H : Heap

def undefA : AV := .tup []
def St.put (σ : St) (d : Nat) (v : AV) : St := ⟨σ.n, fun t => if t = d then v else σ.s t, σ.H⟩
def St.putO (σ : St) (d : Option Nat) (v : AV) : St := match d with | some d => σ.put d v | none => σ
def upd (H : Heap) (b : Nat) (x : Option (List C)) : Heap := fun n => if n = b then x else H n
def St.withH (σ : St) (H : Heap) : St := ⟨σ.n, σ.s, H⟩

/-! ### Types -/
def isAggD : TypeDesc → Bool
  | .struct _ | .array _ _ => true
  | _ => false
def tdesc (P : Program) (t : TypeId) : TypeDesc := (P.underlying t).getD .invalid
def tsize (P : Program) (t : TypeId) : Nat := ((P.info? t).map (·.size)).getD 0
def tbytes (P : Program) (t : TypeId) : Nat := ((P.info? t).map (·.bytes)).getD 0
def tok (P : Program) (t : TypeId) : Bool := (P.info? t).isSome && (P.underlying t).isSome
def tagg (P : Program) (t : TypeId) : Bool := isAggD (tdesc P t)
def litT : Value → Option T
  | .slice none 0 0 => some (.seq (some true) [])
  | v => if scalar v then some (.lit v) else none
def mapMO {α β : Type} (f : α → Option β) : List α → Option (List β)
  | [] => some []
  | a :: l => match f a, mapMO f l with | some b, some m => some (b :: m) | _, _ => none
def litCs (vs : List Value) : Option (List C) := (mapMO litT vs).map (·.map C.t)
def litA : Value → AV
  | .agg cs => match litCs cs.toList with | some l => .agg l | none => .junk
  | .func (.func f) first caps => if first.size = 0 && caps.size = 0 then .one (.fn f []) else .junk
  | .tuple vs => if vs.size = 0 then .tup [] else .junk
  | v => match litT v with | some x => .one (.t x) | none => .junk
/-- The zero value's cells. -/
def tzero (P : Program) (t : TypeId) : Option (List C) := ((P.info? t).bind (·.zero)).bind fun v => litCs v.cells.toList
def telem (P : Program) (t : TypeId) : TypeId := match tdesc P t with | .slice e => e | .array _ e => e | .pointer e => e | _ => 0
def isSliceD : TypeDesc → Bool | .slice _ => true | _ => false
def isArrayD : TypeDesc → Bool | .array _ _ => true | _ => false
def arrLen : TypeDesc → Nat | .array n _ => n | _ => 0
def fieldsD : TypeDesc → List (Nat × TypeId) | .struct fs => fs.toList.map fun f => (f.offset, f.type) | _ => []
def isStructD : TypeDesc → Bool | .struct _ => true | _ => false
def foff (P : Program) (t : TypeId) (f : Nat) : Nat := (((fieldsD (tdesc P t))[f]?).map (·.1)).getD 0
def fty (P : Program) (t : TypeId) (f : Nat) : TypeId := (((fieldsD (tdesc P t))[f]?).map (·.2)).getD 0
def nfields (P : Program) (t : TypeId) : Nat := (fieldsD (tdesc P t)).length
def intD : TypeDesc → Option IntKind | .int k => some k | _ => none

/-! ### Operands -/
def ev (σ : Nat → AV) : Operand → AV
  | .tmp t => σ t
  | .const v => litA v
  | .func f => .one (.fn f [])
  | .global _ => .junk

def AV.boolOf : AV → Option Bool
  | .one (.t (.lit (.bool b))) => some b
  | _ => none
def AV.intOf : AV → Option (IntKind × Int)
  | .one (.t (.lit (.int k n))) => some (k, n)
  | _ => none
def AV.cellsOf : AV → Option (List C)
  | .one c => some [c]
  | .agg cs => some cs
  | _ => none
/-- What lies at an address, from it on. -/
def cellsAt (H : Heap) : AV → Option (List C)
  | .one (.ptr b off) => (H b).map (·.drop off)
  | .iptr cs => some (cs.map .t)
  | _ => none
def shiftA : AV → Nat → AV
  | .one (.ptr b off), k => .one (.ptr b (off + k))
  | .iptr cs, k => .iptr (cs.drop k)
  | _, _ => .junk
def isAddr : AV → Bool
  | .one (.ptr _ _) => true
  | .iptr _ => true
  | _ => false

def litI (k : IntKind) (n : Int) : AV := .one (.t (.lit (.int k n)))
def litB (b : Bool) : AV := .one (.t (.lit (.bool b)))

/-! ### Operators -/
def binI (op : BinOp) (k : IntKind) (a b : Int) : Option Value :=
  match op with
  | .add => some (.int k (k.wrap (a + b)))
  | .sub => some (.int k (k.wrap (a - b)))
  | .mul => some (.int k (k.wrap (a * b)))
  | .quo => some (.int k (k.wrap (Int.tdiv a b)))
  | .rem => some (.int k (Int.tmod a b))
  | .eql => some (.bool (decide (a = b)))
  | .neq => some (.bool (decide (a ≠ b)))
  | .lss => some (.bool (decide (a < b)))
  | .leq => some (.bool (decide (a ≤ b)))
  | .gtr => some (.bool (decide (b < a)))
  | .geq => some (.bool (decide (b ≤ a)))
  | .shr => if 0 ≤ b then some (.int k (a.fdiv (2 ^ min b.toNat k.bits))) else none
  | _ => none
def divides (op : BinOp) : Bool := match op with | .quo | .rem => true | _ => false
/-- Two strings. -/
def strB (op : BinOp) (a b : ByteArray) : Option AV :=
  match op with
  | .eql => some (litB (a.toList == b.toList))
  | .neq => some (litB (!(a.toList == b.toList)))
  | .lss => some (litB (Op.bytesLess a.toList b.toList))
  | .leq => some (litB (Op.bytesLess a.toList b.toList || a.toList == b.toList))
  | .gtr => some (litB (!(Op.bytesLess a.toList b.toList || a.toList == b.toList)))
  | .geq => some (litB (!(Op.bytesLess a.toList b.toList)))
  | .add => if a.size + b.size < 2 ^ 62 then some (.one (.t (.lit (.string (a ++ b))))) else none
  | _ => none
def isPtrD : TypeDesc → Bool | .pointer _ => true | _ => false
def binV (op : BinOp) : AV → AV → Option AV
  | .one (.t (.lit (.int k a))), .one (.t (.lit (.int k' b))) => if k = k' then (binI op k a b).map fun v => .one (.t (.lit v)) else none
  | .one (.t (.lit (.bool a))), .one (.t (.lit (.bool b))) =>
    match op with | .eql => some (litB (a == b)) | .neq => some (litB (!(a == b))) | _ => none
  | .one (.t (.lit (.string a))), .one (.t (.lit (.string b))) => strB op a b
  | .one (.t (.seq (some n) _)), .one (.t (.seq (some true) [])) =>
    match op with | .eql => some (litB n) | .neq => some (litB (!n)) | _ => none
  | .one (.vec _ _ _ _), .one (.t (.seq (some true) [])) =>
    match op with | .eql => some (litB false) | .neq => some (litB true) | _ => none
  | .iptr _, .one (.t (.lit (.pointer none))) =>
    match op with | .eql => some (litB false) | .neq => some (litB true) | _ => none
  | .one (.t (.lit (.pointer none))), .one (.t (.lit (.pointer none))) =>
    match op with | .eql => some (litB true) | .neq => some (litB false) | _ => none
  | _, _ => none
def binOk (op : BinOp) : AV → Prop
  | .one (.t (.lit (.int _ b))) => divides op = true → b ≠ 0
  | _ => True
def binTy (P : Program) (t : TypeId) : AV → Prop
  | .one (.t (.lit (.bool _))) => tok P t = true ∧ tdesc P t = .bool
  | .one (.t (.seq _ _)) => tok P t = true ∧ isSliceD (tdesc P t) = true
  | .one (.vec _ _ _ _) => tok P t = true ∧ isSliceD (tdesc P t) = true
  | .iptr _ => tok P t = true ∧ isPtrD (tdesc P t) = true
  | .one (.t (.lit (.pointer none))) => tok P t = true ∧ isPtrD (tdesc P t) = true
  | _ => True
def unV (op : UnOp) : AV → Option AV
  | .one (.t (.lit (.bool a))) => match op with | .not => some (litB (!a)) | _ => none
  | .one (.t (.lit (.int k a))) => match op with | .neg => some (litI k (k.wrap (0 - a))) | _ => none
  | _ => none
/-- Bytes of a sequence's elements. -/
def bytesT : List (List T) → Option (List UInt8)
  | [] => some []
  | [.lit (.int .u8 n)] :: l => (bytesT l).map (UInt8.ofNat n.toNat :: ·)
  | _ :: _ => none
def strOf (l : List UInt8) : ByteArray := l.foldl ByteArray.push ByteArray.empty
def isStrD : TypeDesc → Bool | .string => true | _ => false
def isU8D : TypeDesc → Bool | .int .u8 => true | _ => false
def convV (P : Program) (src dst : TypeId) : AV → Option AV
  | .one (.t (.lit (.int _ n))) => (intD (tdesc P dst)).map fun k => litI k (k.wrap n)
  | .one (.t (.seq _ xs)) => if isSliceD (tdesc P src) && tok P (telem P src) && isU8D (tdesc P (telem P src)) && isStrD (tdesc P dst) then (bytesT xs).map fun l => .one (.t (.lit (.string (strOf l)))) else none
  | _ => none

/-! ### Slices -/
def AV.lenOf : AV → Option Nat
  | .one (.t (.seq _ xs)) => some xs.length
  | .one (.vec _ _ _ n) => some n
  | .one (.t (.lit (.string s))) => some s.size
  | _ => none
/-- The address of element i. -/
def elemA (sz : Nat) : AV → Nat → AV
  | .one (.t (.seq _ xs)), i => .iptr (xs.getD i [])
  | .one (.vec b _ off _), i => .one (.ptr b (off + i * sz))
  | _, _ => .junk
def elemOk (sz : Nat) : AV → Nat → Prop
  | .one (.t (.seq _ xs)), i => ∀ x ∈ xs, x.length = sz
  | .one (.vec _ sz' _ _), _ => sz' = sz
  | _, _ => False
def sliceV (sz : Nat) : AV → Nat → Nat → AV
  | .one (.t (.seq nl xs)), lo, hi => .one (.t (.seq nl ((xs.take hi).drop lo)))
  | .one (.vec b s off _), lo, hi => .one (.vec b s (off + lo * sz) (hi - lo))
  | .one (.t (.lit (.string s))), lo, hi => .one (.t (.lit (.string (s.extract lo hi))))
  | _, _, _ => .junk
def sliceOk (sz : Nat) : AV → Prop
  | .one (.t (.seq _ xs)) => ∀ x ∈ xs, x.length = sz
  | .one (.vec _ sz' _ _) => sz' = sz
  | _ => False
/-- What is sliced, its type. -/
def sliceTy (P : Program) (t : TypeId) : AV → Prop
  | .one (.t (.lit (.string _))) => tdesc P t = .string
  | x => isSliceD (tdesc P t) = true ∧ tok P (telem P t) = true ∧ sliceOk (tsize P (telem P t)) x
def optNat (d : Nat) : Option AV → Option Nat
  | none => some d
  | some v => match v.intOf with | some (_, n) => if 0 ≤ n then some n.toNat else none | none => none

/-! ### What is built -/
def setCs (base : List C) (off : Nat) (cs : List C) : List C := base.take off ++ cs ++ base.drop (off + cs.length)
def fillA (place : Nat → Option (Nat × Nat)) (base : List C) : List (Nat × AV) → Option (List C)
  | [] => some base
  | (i, v) :: rest =>
    match place i, v.cellsOf with
    | some (off, size), some cs => if cs.length = size ∧ off + size ≤ base.length then fillA place (setCs base off cs) rest else none
    | _, _ => none
def placesA (P : Program) (t : TypeId) (i : Nat) : Option (Nat × Nat) :=
  match tdesc P t with
  | .struct fs => (fs[i]?).map fun f => (f.offset, tsize P f.type)
  | .array _ e => some (i * tsize P e, tsize P e)
  | _ => none
def buildA (P : Program) (t : TypeId) (parts : List (Nat × AV)) : Option (List C) :=
  match tzero P t with
  | some z => fillA (placesA P t) z parts
  | none => none
def toTs (cs : List C) : Option (List T) := mapMO (fun | .t x => some x | _ => none) cs
def chunk (sz : Nat) : Nat → List T → List (List T)
  | 0, _ => []
  | n + 1, l => l.take sz :: chunk sz n (l.drop sz)
def repl {α : Type} (n : Nat) (l : List α) : List α := (List.replicate n l).flatten
def buildSliceA (P : Program) (t : TypeId) (n : Nat) (parts : List (Nat × AV)) : Option AV :=
  let e := telem P t
  match tzero P e with
  | some z => match fillA (fun i => some (i * tsize P e, tsize P e)) (repl n z) parts with
    | some cs => (toTs cs).map fun ts => .one (.t (.seq (some false) (chunk (tsize P e) n ts)))
    | none => none
  | none => none

end Go.Abs
namespace Go.Abs
open Go

def partsTok (P : Program) (t : TypeId) : Bool :=
  match tdesc P t with
  | .struct fs => fs.toList.all fun f => tok P f.type
  | .array _ e => tok P e
  | _ => false

/-- A literal slice whose first part is the fifth slot's is left out: it is made as an own slice where it is appended to. -/
def isT5 : Operand → Bool
  | .tmp n => decide (n = 5) || decide (n = 104)
  | _ => false
def own5 : List (Nat × Operand) → Bool
  | [] => false
  | p :: _ => isT5 p.2
/-- The operations that are reckoned. -/
def simpleOp : Op → Bool
  | .move _ | .assign _ | .pick .. | .alloc _ | .box .. | .build .. | .load .. | .store .. | .nilCheck _ | .binOp .. | .unOp .. | .convert ..
  | .makeSlice .. | .slice .. | .fieldAddr .. | .field .. | .indexAddr .. | .index .. | .extract .. | .makeFunc .. => true
  | .buildSlice _ n ps => n != 0 && !own5 ps.toList
  | .call { callee := .builtin .len, args, .. } => args.size == 1
  | .call { callee := .builtin .min, args, .. } => args.size == 2
  | _ => false

def minOk : List AV → Prop
  | [x, y] => (match x.intOf, y.intOf with | some (k, _), some (k', _) => k = k' | _, _ => False)
  | _ => False
def minV : List AV → AV
  | [x, y] => (match x.intOf, y.intOf with | some (k, a), some (_, b) => .one (.t (.lit (.int k (if b < a then b else a)))) | _, _ => .junk)
  | _ => .junk

def capsOf : List AV → Option (List (Nat × Nat))
  | [] => some []
  | .one (.ptr b off) :: l => (capsOf l).map ((b, off) :: ·)
  | _ :: _ => none

def lenOk (P : Program) (t : TypeId) : AV → Prop
  | .one (.t (.lit (.string _))) => tdesc P t = .string
  | .one (.t (.lit _)) => False
  | x => isSliceD (tdesc P t) = true ∧ x.lenOf.isSome = true

section
variable (P : Program) (d : Nat) (e : Operand → AV) (H : Heap)

def idx (x : AV) : Nat := match x.intOf with | some (_, n) => n.toNat | none => 0
def inRange (x : AV) (n : Nat) : Prop := match x.intOf with | some (_, i) => 0 ≤ i ∧ i < n | none => False

def opOk : Op → Prop
  | .move _ | .assign _ => True
  | .pick c _ _ => (e c).boolOf.isSome = true
  | .alloc t => tok P t = true ∧ (tzero P t).isSome = true ∧ H d = none
  | .box _ x => (e x).cellsOf.isSome = true ∧ H d = none
  | .build t parts => tok P t = true ∧ partsTok P t = true ∧ (buildA P t (parts.toList.map fun p => (p.1, e p.2))).isSome = true
  | .buildSlice t n parts => tok P t = true ∧ isSliceD (tdesc P t) = true ∧ tok P (telem P t) = true ∧ n * tsize P (telem P t) ≤ 2 ^ 24 ∧ 0 < n * tsize P (telem P t) ∧ ((tzero P (telem P t)).map (·.length)) = some (tsize P (telem P t)) ∧
      (buildSliceA P t n (parts.toList.map fun p => (p.1, e p.2))).isSome = true
  | .load t a => tok P t = true ∧ (cellsAt H (e a)).isSome = true ∧ (if tagg P t then tsize P t else 1) ≤ ((cellsAt H (e a)).getD []).length
  | .store t a x => tok P t = true ∧ (match e a with
      | .one (.ptr b off) => (match H b, (e x).cellsOf with | some cs, some ns => ns.length = tsize P t ∧ off + ns.length ≤ cs.length | _, _ => False)
      | _ => False)
  | .nilCheck x => isAddr (e x) = true
  | .binOp op t x y _ => (binV op (e x) (e y)).isSome = true ∧ binOk op (e y) ∧ binTy P t (e x)
  | .unOp op _ x => (unV op (e x)).isSome = true
  | .convert src dst x => tok P src = true ∧ tok P dst = true ∧ (convV P src dst (e x)).isSome = true
  | .makeSlice t l c => tok P t = true ∧ isSliceD (tdesc P t) = true ∧ tok P (telem P t) = true ∧ (tzero P (telem P t)).isSome = true ∧ ((tzero P (telem P t)).getD []).length = tsize P (telem P t) ∧ 0 < tsize P (telem P t) ∧ H d = none ∧
      (match (e l).intOf, (e c).intOf with
       | some (_, n), some (_, m) => 0 ≤ n ∧ n ≤ m ∧ m < 2 ^ 62 ∧ tbytes P (telem P t) * m ≤ 2 ^ 47
       | _, _ => False)
  | .slice t x lo hi mx => mx.isNone = true ∧ tok P t = true ∧ sliceTy P t (e x) ∧
      (match (e x).lenOf with
       | some n => (match optNat 0 (lo.map e), optNat n (hi.map e) with
         | some l, some h => l ≤ h ∧ h ≤ n ∧ (match e x with | .one (.vec _ _ _ _) => l = 0 ∨ l < h | _ => True)
         | _, _ => False)
       | none => False)
  | .fieldAddr t x f => tok P t = true ∧ isStructD (tdesc P t) = true ∧ f < nfields P t ∧ tok P (fty P t f) = true ∧ 0 < tsize P (fty P t f) ∧ isAddr (e x) = true
  | .field t x f => tok P t = true ∧ isStructD (tdesc P t) = true ∧ f < nfields P t ∧ tok P (fty P t f) = true ∧
      (match e x with | .agg cs => (if tagg P (fty P t f) then foff P t f + tsize P (fty P t f) else foff P t f + 1) ≤ cs.length | _ => False)
  | .indexAddr t x i => tok P t = true ∧ tok P (telem P t) = true ∧
      ((isSliceD (tdesc P t) = true ∧ elemOk (tsize P (telem P t)) (e x) (idx (e i)) ∧ (match (e x).lenOf with | some n => inRange (e i) n | none => False)) ∨
       (isArrayD (tdesc P t) = true ∧ isAddr (e x) = true ∧ inRange (e i) (arrLen (tdesc P t))))
  | .index t x i => tok P t = true ∧
      ((isArrayD (tdesc P t) = true ∧ tok P (telem P t) = true ∧ inRange (e i) (arrLen (tdesc P t)) ∧
        (match e x with | .agg cs => idx (e i) * tsize P (telem P t) + (if tagg P (telem P t) then tsize P (telem P t) else 1) ≤ cs.length | _ => False)) ∨
       (tdesc P t = .string ∧ (match e x with | .one (.t (.lit (.string s))) => inRange (e i) s.size | _ => False)))
  | .extract t i => (match e t with | .tup vs => i < vs.length | _ => False)
  | .makeFunc fn first caps => first.size = 0 ∧ (match fn with | .func _ => True | _ => False) ∧ (capsOf (caps.toList.map e)).isSome = true
  | .call { callee := .builtin .min, args, .. } => minOk (args.toList.map e)
  | .call c => (match c.args[0]?, (c.argTypes[0]? : Option TypeId) with | some x, some t => tok P t = true ∧ lenOk P t (e x) | _, _ => False)
  | _ => False

def opV : Op → AV
  | .move x | .assign x => e x
  | .pick c a b => if (e c).boolOf = some true then e a else e b
  | .alloc _ => .one (.ptr d 0)
  | .box _ _ => .one (.ptr d 0)
  | .build t parts => .agg ((buildA P t (parts.toList.map fun p => (p.1, e p.2))).getD [])
  | .buildSlice t n parts => (buildSliceA P t n (parts.toList.map fun p => (p.1, e p.2))).getD .junk
  | .load t a => if tagg P t then .agg (((cellsAt H (e a)).getD []).take (tsize P t)) else .one (((cellsAt H (e a)).getD []).headD default)
  | .nilCheck x => e x
  | .binOp op _ x y _ => (binV op (e x) (e y)).getD .junk
  | .unOp op _ x => (unV op (e x)).getD .junk
  | .convert src dst x => (convV P src dst (e x)).getD .junk
  | .makeSlice t l _ => .one (.vec d (tsize P (telem P t)) 0 (idx (e l)))
  | .slice t x lo hi _ => sliceV (tsize P (telem P t)) (e x) ((optNat 0 (lo.map e)).getD 0) ((optNat ((e x).lenOf.getD 0) (hi.map e)).getD 0)
  | .fieldAddr t x f => shiftA (e x) (foff P t f)
  | .field t x f => (match e x with | .agg cs => if tagg P (fty P t f) then .agg ((cs.drop (foff P t f)).take (tsize P (fty P t f))) else .one ((cs.drop (foff P t f)).headD default) | _ => .junk)
  | .indexAddr t x i => if isSliceD (tdesc P t) then elemA (tsize P (telem P t)) (e x) (idx (e i)) else shiftA (e x) (idx (e i) * tsize P (telem P t))
  | .index t x i => (match e x with
      | .agg cs => if tagg P (telem P t) then .agg ((cs.drop (idx (e i) * tsize P (telem P t))).take (tsize P (telem P t))) else .one ((cs.drop (idx (e i) * tsize P (telem P t))).headD default)
      | .one (.t (.lit (.string s))) => litI .u8 (s[idx (e i)]!).toNat
      | _ => .junk)
  | .extract t i => (match e t with | .tup vs => vs.getD i .junk | _ => .junk)
  | .makeFunc fn _ caps => (match fn with | .func f => .one (.fn f ((capsOf (caps.toList.map e)).getD [])) | _ => .junk)
  | .call { callee := .builtin .min, args, .. } => minV (args.toList.map e)
  | .call c => litI .i64 (((c.args[0]?).bind fun x => (e x).lenOf).getD 0 : Nat)
  | _ => undefA

def opH : Op → Heap
  | .alloc t => upd H d (tzero P t)
  | .box _ x => upd H d (e x).cellsOf
  | .makeSlice t l _ => upd H d (some (repl (idx (e l)) ((tzero P (telem P t)).getD [])))
  | .store _ a x => (match e a with
      | .one (.ptr b off) => upd H b (some (setCs ((H b).getD []) off ((e x).cellsOf.getD [])))
      | _ => H)
  | _ => H
end

/-! ### Calls -/
inductive TV where
  | one (t : T)
  | agg (ts : List T)
  | tup (xs : List TV)
  | ip (ts : List T)
  deriving Inhabited

def emb : TV → AV
  | .one t => .one (.t t)
  | .agg ts => .agg (ts.map .t)
  | .tup xs => .tup (embs xs)
  | .ip ts => .iptr ts
where embs : List TV → List AV
  | [] => []
  | x :: l => emb x :: embs l

def noρ : Nat → Option Nat := fun _ => none

def RArgs (w : World) (ok : Nat → Prop) (ρ : Nat → Option Nat) (xs : List AV) (vs : Array Value) : Prop :=
  vs.size = xs.length ∧ ∀ i (h : i < xs.length) (h' : i < vs.size), RA w ok ρ xs[i] vs[i]

/-- A call of function f with these arguments answers r; it changes nothing that was there. -/
def PCall (P : Program) (f : FuncId) (args : List TV) (r : TV) : Prop :=
  (∀ (as : Array Value) w, (callFunc f as).run P w = .ok (.enter f as) w) ∧
  ∀ (ok : Nat → Prop) (w : World) (vs : Array Value), (∀ n, ok n → n < w.heap.size) → RArgs w ok noρ (args.map emb) vs →
    Calls P f vs w fun e w' => ∃ v ok', e = .returned v ∧ RA w' ok' noρ (emb r) v ∧ Goes noρ ok w noρ ok' w' ∧ ∀ n, ok' n → n < w'.heap.size

structure HR (ρ : Nat → Option Nat) (ok : Nat → Prop) (H : Heap) (w : World) : Prop where
  heap : ∀ b cs, H b = some cs → ∃ c arr el, ρ b = some c ∧ w.heap[c]? = some (.cells arr el (0, 0)) ∧ cs.length ≤ arr.size ∧
    ∀ j (h : j < cs.length) (h' : j < arr.size), RC w ok ρ cs[j] arr[j]
  dom : ∀ b, H b = none → ρ b = none
  inj : ∀ b b' c, ρ b = some c → ρ b' = some c → b = b'
  okR : ∀ n, ok n → n < w.heap.size ∧ ∀ b, ρ b ≠ some n

structure SR (ρ : Nat → Option Nat) (ok : Nat → Prop) (σ : St) (a : Act) (w : World) : Prop extends HR ρ ok σ.H w where
  size : a.tmps.size = σ.n
  slots : ∀ t, RA w ok ρ (σ.s t) (a.tmps.getD t undef)
  defers : a.defers = []
  small : σ.n ≤ PIN

/-- A call that may write what it was given; nothing is let go. -/
def MCall (P : Program) (f : FuncId) (args : List AV) (H : Heap) (r : AV) (H' : Heap) : Prop :=
  (∀ (as : Array Value) w, (callFunc f as).run P w = .ok (.enter f as) w) ∧
  ∀ ρ ok w vs, HR ρ ok H w → RArgs w ok ρ args vs →
    Calls P f vs w fun e w' => ∃ v ρ' ok', e = .returned v ∧ RA w' ok' ρ' r v ∧ HR ρ' ok' H' w' ∧ Goes ρ ok w ρ' ok' w' ∧ ∀ b c, ρ b = some c → ρ' b = some c

/-- A step that is told by what it does to the state. -/
def MStep (P : Program) (f : FuncId) (args : List AV) (σ : St) (r : AV) (σ' : St) : Prop :=
  (∀ (as : Array Value) w, (callFunc f as).run P w = .ok (.enter f as) w) ∧
  ∀ ρ ok a w vs, SR ρ ok σ a w → RArgs w ok ρ args vs →
    Calls P f vs w fun e w' => ∃ v ρ' ok', e = .returned v ∧ RA w' ok' ρ' r v ∧ SR ρ' ok' σ' a w' ∧ Goes ρ ok w ρ' ok' w'

def OStep (P : Program) (o : Oper) (σ : St) (r : AV) (σ' : St) : Prop :=
  ∀ ρ ok a w, SR ρ ok σ a w → ∃ v w' ρ' ok', (execOp a.eval o).run P w = .ok (.value v) w' ∧ RA w' ok' ρ' r v ∧ SR ρ' ok' σ' a w' ∧ Goes ρ ok w ρ' ok' w'

def GStep (σ σ' : St) : Prop := ∀ ρ ok a w, SR ρ ok σ a w → ∃ ρ' ok', SR ρ' ok' σ' a w ∧ Goes ρ ok w ρ' ok' w

/-- A call that reads own blocks and leaves them, however many more there are. -/
def RdC (P : Program) (f : FuncId) (args : List AV) (H : Heap) (r : AV) : Prop := ∀ H', (∀ b cs, H b = some cs → H' b = some cs) → MCall P f args H' r H'

def CallA (P : Program) (m : Nat) (f : FuncId) (args : List AV) (σ : St) (K : AV → St → Prop) : Prop :=
  (∃ tvs r, args = tvs.map emb ∧ PCall P f tvs r ∧ K (emb r) σ) ∨ ((m = 1 ∨ m = 2) ∧ ∃ r H', MCall P f args σ.H r H' ∧ K r (σ.withH H')) ∨ (m = 2 ∧ ∃ r σ', σ'.n = σ.n ∧ MStep P f args σ r σ' ∧ K r σ') ∨ (m = 3 ∧ ∃ r, RdC P f args σ.H r ∧ K r σ)

def OpA (P : Program) (_m : Nat) (o : Oper) (σ : St) (K : AV → St → Prop) : Prop :=
  ∃ r σ', σ'.n = σ.n ∧ OStep P o σ r σ' ∧ K r σ'

def capA (p : Nat × Nat) : AV := .one (.ptr p.1 p.2)

/-- What is called: a function, what it has caught. -/
def calleeA : AV → Option (FuncId × List AV)
  | .one (.fn f caps) => some (f, caps.map capA)
  | .one (.t (.clo f caps)) => some (f, caps.map AV.iptr)
  | _ => none

def CallF (P : Program) (m : Nat) (f : AV) (args : List AV) (σ : St) (K : AV → St → Prop) : Prop :=
  match calleeA f with
  | some (f, caps) => CallA P m f (args ++ caps) σ K
  | none => False

def SimpA (P : Program) (d : Nat) (op : Op) (σ : St) (K : AV → St → Prop) : Prop :=
  opOk P d (ev σ.s) σ.H op ∧ K (opV P d (ev σ.s) σ.H op) (σ.withH (opH P d (ev σ.s) σ.H op))

def stepA (P : Program) (m : Nat) (o : Oper) (σ : St) (K : AV → St → Prop) : Prop :=
  match o.op with
  | .call { callee := .value f, args, argTypes := _ } => CallF P m (ev σ.s f) (args.toList.map (ev σ.s)) σ K
  | op => if simpleOp op then SimpA P (o.dst.getD 0) op σ K else OpA P m o σ K

def BR (c : Option Bool) (p q : Prop) : Prop :=
  match c with
  | some true => p
  | some false => q
  | none => False

def gslot : List Oper → Nat → Option Tmp
  | [], _ => none
  | o :: _, 0 => o.dst
  | _ :: l, n + 1 => gslot l n
def wantV : AV → Bool → Option Bool
  | .one (.t (.lit (.bool b))), want => some (b == want)
  | .tup [], _ => some false
  | _, _ => none
def wantS (s : Nat → AV) (want : Bool) : Option Tmp → Option Bool
  | none => some false
  | some t => wantV (s t) want

def wantedA (ops : List Oper) (σ : St) : Option (Nat × Bool) → Option Bool
  | none => some true
  | some (j, want) => wantS σ.s want (gslot ops j)

def dstOk (n : Nat) : Option Tmp → Bool
  | some d => decide (d < n)
  | none => true

def runOps (P : Program) (m : Nat) (ops : List Oper) (Q : St → Prop) : List Oper → St → Prop
  | [], σ => Q σ
  | o :: rest, σ => dstOk σ.n o.dst = true ∧
      BR (wantedA ops σ o.guard) (stepA P m o σ fun v σ' => runOps P m ops Q rest (σ'.putO o.dst v)) (runOps P m ops Q rest (σ.putO o.dst undefA))

/-! ### Orders -/
inductive Cls where | pure | alloc | load | write | full | rd deriving DecidableEq
def clsOf (m : Nat) : Op → Cls
  | .alloc _ | .box .. | .makeSlice .. => .alloc
  | .load .. => .load
  | .store .. => .write
  | .call { callee := .value _, .. } => if m = 0 then .pure else if m = 1 then .write else if m = 3 then .rd else .full
  | op => if simpleOp op then .pure else .full
/-- May 'y', that stands behind 'x' in the text, come ahead of it? -/
def clsApart : Cls → Cls → Bool
  | .full, _ => false
  | _, .full => false
  | .pure, _ => true
  | _, .pure => true
  | .alloc, .alloc => true
  | .load, .alloc => true
  | .load, .load => true
  | .rd, .alloc => true
  | .rd, .load => true
  | .load, .rd => true
  | .rd, .rd => true
  | _, _ => false
def apartA (m : Nat) (ops : Array Oper) (x y : Oper) : Bool := x.apart ops y && clsApart (clsOf m x.op) (clsOf m y.op)
def reach (ops : Array Oper) : Nat → Nat → Nat → Bool
  | 0, _, _ => false
  | f + 1, k, i => match ops[i]? with
    | some o => o.after.toList.any fun e => Region.binds .any e && (e.on == k || reach ops f k e.on)
    | none => false
def backOnly (ops : Array Oper) (i : Nat) : Bool :=
  match ops[i]? with
  | some o => o.after.toList.all fun e => !Region.binds .any e || decide (e.on < i)
  | none => true
def ordOk (m : Nat) (ops : Array Oper) : Bool :=
  (List.range ops.size).all fun i => backOnly ops i && (List.range i).all fun k =>
    match ops[k]?, ops[i]? with
    | some x, some y => apartA m ops x y || reach ops (i + 1) k i
    | _, _ => false

/-! A load and a store through pointers to different blocks are apart. -/
def lookB (bl : List (Nat × Nat)) (t : Nat) : Option Nat := (bl.find? fun p => p.1 == t).map (·.2)
def diffB (bl : List (Nat × Nat)) (t t' : Nat) : Bool :=
  match lookB bl t, lookB bl t' with
  | some b, some b' => b != b'
  | _, _ => false
def lsApart (bl : List (Nat × Nat)) : Op → Op → Bool
  | .load _ (.tmp t), .store _ (.tmp t') _ => diffB bl t t'
  | .store _ (.tmp t') _, .load _ (.tmp t) => diffB bl t t'
  | _, _ => false
def apartB (m : Nat) (bl : List (Nat × Nat)) (ops : Array Oper) (x y : Oper) : Bool := x.apart ops y && (clsApart (clsOf m x.op) (clsOf m y.op) || lsApart bl x.op y.op)
def keepB (m : Nat) (bl : List (Nat × Nat)) (o : Oper) : Bool := bl.isEmpty || (clsOf m o.op != .full && bl.all fun p => o.dst != some p.1)
def ordOkB (m : Nat) (bl : List (Nat × Nat)) (ops : Array Oper) : Bool :=
  (ops.toList.all (keepB m bl)) && (List.range ops.size).all fun i => backOnly ops i && (List.range i).all fun k =>
    match ops[k]?, ops[i]? with
    | some x, some y => apartB m bl ops x y || reach ops (i + 1) k i
    | _, _ => false
/-- The same, some being listed already. -/
def ordOkT (tk : List Nat) (m : Nat) (bl : List (Nat × Nat)) (ops : Array Oper) : Bool :=
  (ops.toList.all (keepB m bl)) && (List.range ops.size).all fun i => tk.contains i || (backOnly ops i && (List.range i).all fun k => tk.contains k ||
    match ops[k]?, ops[i]? with
    | some x, some y => apartB m bl ops x y || reach ops (i + 1) k i
    | _, _ => false)
theorem ordOkT_nil {m : Nat} {bl : List (Nat × Nat)} {ops : Array Oper} (h : ordOkB m bl ops = true) : ordOkT [] m bl ops = true := by
  unfold ordOkB at h
  unfold ordOkT
  simpa using h
def GoodB (bl : List (Nat × Nat)) (σ : St) : Prop := ∀ p ∈ bl, ∃ o, σ.s p.1 = .one (.ptr p.2 o)

/-! ### Code -/
/-- The operations that are still to come, in whatever order they may: q behind all of them. -/
def AnyS (P : Program) (ops : Array Oper) (q : St → Prop) (fuel : Nat) (listed : Array Bool) (σ : St) : Prop :=
  ∀ ρ ok a w, SR ρ ok σ a w → ∀ Q' : Exit → Act → World → Prop, (∀ c a w, ¬ Q' (.panic c) a w) → (∀ σ' ρ' ok' a' w', q σ' → SR ρ' ok' σ' a' w' → Goes ρ ok w ρ' ok' w' → Q' .normal a' w') → wpAny P .any ops Q' fuel listed a w
def RegA (P : Program) (ops : Array Oper) (Q : St → Prop) (σ : St) : Prop :=
  (∃ m bl σ', GStep σ σ' ∧ ordOkB m bl ops = true ∧ GoodB bl σ' ∧ runOps P m ops.toList Q ops.toList σ') ∨ AnyS P ops Q ops.size (Array.replicate ops.size false) σ

def seqQ (K : St → Prop) (Q : Exit → St → Prop) : Exit → St → Prop
  | .normal, σ => K σ
  | e, σ => Q e σ
def blockQ (id : Nat) (Q : Exit → St → Prop) : Exit → St → Prop
  | .exit id', σ => if id' = id then Q .normal σ else Q (.exit id') σ
  | e, σ => Q e σ

def LoopN (B : (Exit → St → Prop) → St → Prop) (Q : Exit → St → Prop) : Nat → St → Prop
  | 0, _ => False
  | k + 1, σ => ∃ σ', GStep σ σ' ∧ B (seqQ (LoopN B Q k) Q) σ'
def LoopA (B : (Exit → St → Prop) → St → Prop) (Q : Exit → St → Prop) (σ : St) : Prop := ∃ k, LoopN B Q k σ

def wpA (P : Program) : Code → (Exit → St → Prop) → St → Prop
  | .skip, Q, σ => Q .normal σ
  | .region _ ops draw, Q, σ => if draw then RegA P ops (Q .normal) σ else runOps P 2 ops.toList (Q .normal) ops.toList σ
  | .seq a b, Q, σ => wpA P a (seqQ (wpA P b Q) Q) σ
  | .cond c x y, Q, σ => BR (ev σ.s c).boolOf (wpA P x Q σ) (wpA P y Q σ)
  | .block id c, Q, σ => wpA P c (blockQ id Q) σ
  | .loop c, Q, σ => LoopA (wpA P c) Q σ
  | .exit id, Q, σ => Q (.exit id) σ
  | .ret, Q, σ => Q .ret σ
  | _, _, _ => False

end Go.Abs
namespace Go.Abs
open Go

section
variable {P : Program} {w : World}

theorem run_underlying {t : TypeId} (h : tok P t = true) : (underlying t).run P w = .ok (tdesc P t) w := by
  simp only [tok, Bool.and_eq_true, Option.isSome_iff_exists] at h
  obtain ⟨_, d, hd⟩ := h
  simp [underlying, program, tdesc, hd, Sem.run, bind, Sem.bind, pure]

theorem run_typeInfo {t : TypeId} (h : tok P t = true) : ∃ i, P.info? t = some i ∧ (typeInfo t).run P w = .ok i w := by
  simp only [tok, Bool.and_eq_true, Option.isSome_iff_exists] at h
  obtain ⟨⟨i, hi⟩, _⟩ := h
  exact ⟨i, hi, by simp [typeInfo, program, hi, Sem.run, bind, Sem.bind, pure]⟩

theorem run_sizeOf {t : TypeId} (h : tok P t = true) : (sizeOf t).run P w = .ok (tsize P t) w := by
  obtain ⟨i, hi, hr⟩ := run_typeInfo (w := w) h
  unfold Go.sizeOf
  rw [Sem.run_bind, hr]
  simp [Result.andThen, tsize, hi]

theorem run_isAgg {t : TypeId} (h : tok P t = true) : (isAgg t).run P w = .ok (tagg P t) w := by
  unfold isAgg
  rw [Sem.run_bind, run_underlying h]
  simp only [Result.andThen, tagg]
  cases tdesc P t <;> simp [isAggD]

theorem run_zeroValue {t : TypeId} {z : Value} (h : tok P t = true) (hz : (P.info? t).bind (·.zero) = some z) : (zeroValue t).run P w = .ok z w := by
  obtain ⟨i, hi, hr⟩ := run_typeInfo (w := w) h
  unfold zeroValue
  rw [Sem.run_bind, hr]
  simp [hi] at hz
  simp [Result.andThen, hz]

theorem add_none (c off n : Nat) : (⟨c, off, none⟩ : Addr).add n = ⟨c, off + n, none⟩ := by
  unfold Addr.add; split <;> simp [*]

theorem run_load {a : Addr} {v : Value} (h : w.cell? a = some v) : (load a).run P w = .ok v w := by
  simp [load, Sem.run, h]

theorem loadCellsFrom_run {c off : Nat} (u : Nat → Value) : ∀ (n i : Nat) (acc : Array Value), (∀ j, j < n → w.cell? ⟨c, off + (i + j), none⟩ = some (u (i + j))) →
    (loadCellsFrom ⟨c, off, none⟩ i n acc).run P w = .ok (acc ++ ((List.range n).map fun j => u (i + j)).toArray) w := by
  intro n
  induction n with
  | zero => intro i acc _; simp [loadCellsFrom]
  | succ n ih =>
    intro i acc h
    unfold loadCellsFrom
    rw [Sem.run_bind, add_none, run_load (v := u i) (by simpa using h 0 (by omega))]
    simp only [Result.andThen]
    rw [ih (i + 1) _ (fun j hj => by have := h (j + 1) (by omega); rw [show i + 1 + j = i + (j + 1) by omega]; exact this)]
    congr 1
    rw [List.range_succ_eq_map]
    simp [Nat.add_assoc, Nat.add_comm 1, Function.comp_def]

theorem loadCells_run {c off n : Nat} (u : Nat → Value) (h : ∀ j, j < n → w.cell? ⟨c, off + j, none⟩ = some (u j)) :
    (loadCells ⟨c, off, none⟩ n).run P w = .ok ((List.range n).map u).toArray w := by
  unfold loadCells
  rw [loadCellsFrom_run u n 0 #[] (by simpa using h)]
  simp

theorem loadVar_run {t : TypeId} (ht : tok P t = true) {c off : Nat} (u : Nat → Value) (h : ∀ j, j < (if tagg P t then tsize P t else 1) → w.cell? ⟨c, off + j, none⟩ = some (u j)) :
    (loadVar t ⟨c, off, none⟩).run P w = .ok (if tagg P t then .agg ((List.range (tsize P t)).map u).toArray else u 0) w := by
  unfold loadVar
  rw [Sem.run_bind, run_isAgg ht]
  simp only [Result.andThen]
  cases hg : tagg P t with
  | true =>
    simp only [hg, if_true] at h
    simp only [if_true]
    rw [Sem.run_bind, run_sizeOf ht]
    simp only [Result.andThen]
    rw [Sem.run_bind, loadCells_run u h]
    simp [Result.andThen]
  | false =>
    simp only [hg, Bool.false_eq_true, if_false] at h
    simp only [Bool.false_eq_true, if_false]
    exact run_load (by simpa using h 0 (by omega))

end

/-! ### What a constant is -/
theorem RT_litT {w : World} {ok : Nat → Prop} {v : Value} {x : T} (h : litT v = some x) : RT w ok x v := by
  unfold litT at h
  split at h
  · cases h
    exact .seq (sz := 0) (u := fun _ _ => default) (blk := 0) (off := 0) rfl (Nat.le_refl _) (fun _ => rfl) (fun _ => rfl) (fun h => by cases h) (fun x hx => by cases hx) (fun h => absurd rfl h) (fun i hi => by simp at hi) (fun i hi => by simp at hi)
  · split at h
    · cases h; exact .lit ‹_›
    · cases h

theorem mapMO_length {α β : Type} {f : α → Option β} : ∀ {l : List α} {m : List β}, mapMO f l = some m → m.length = l.length
  | [], m, h => by simp [mapMO] at h; subst h; rfl
  | a :: l, m, h => by
    unfold mapMO at h
    split at h
    · cases h; rename_i b m' _ hm; simp [mapMO_length hm]
    · cases h

theorem mapMO_get {α β : Type} {f : α → Option β} : ∀ {l : List α} {m : List β}, mapMO f l = some m → ∀ i (h : i < l.length) (h' : i < m.length), f l[i] = some m[i]
  | [], m, h => by intro i hi; simp at hi
  | a :: l, m, h => by
    unfold mapMO at h
    split at h
    · cases h
      rename_i b m' hb hm
      intro i hi hi'
      cases i with
      | zero => simpa using hb
      | succ i => simpa using mapMO_get hm i (by simpa using hi) (by simpa using hi')
    · cases h

theorem RCs_litCs {w : World} {ok : Nat → Prop} {ρ : Nat → Option Nat} {vs : List Value} {cs : List C} (h : litCs vs = some cs) :
    cs.length = vs.length ∧ ∀ j (h : j < cs.length) (h' : j < vs.length), RC w ok ρ cs[j] vs[j] := by
  unfold litCs at h
  simp only [Option.map_eq_some_iff] at h
  obtain ⟨l, hl, rfl⟩ := h
  refine ⟨by simp [mapMO_length hl], fun j hj hj' => ?_⟩
  have hj2 : j < l.length := by simpa using hj
  simpa using RC.t (RT_litT (mapMO_get hl j hj' hj2))

theorem RA_litA {w : World} {ok : Nat → Prop} {ρ : Nat → Option Nat} (v : Value) : RA w ok ρ (litA v) v := by
  unfold litA
  split
  · split
    · rename_i cs l h
      obtain ⟨h1, h2⟩ := RCs_litCs (w := w) (ok := ok) (ρ := ρ) h
      exact .agg (by simpa using h1.symm) fun j hj hj' => by have := h2 j hj (by simpa using hj'); rwa [Array.getElem_toList] at this
    · exact .junk
  · split
    · rename_i f first caps h
      simp only [Bool.and_eq_true, decide_eq_true_eq] at h
      obtain ⟨h1, h2⟩ := h
      obtain rfl : first = #[] := Array.eq_empty_of_size_eq_zero h1
      exact .one (.fn (by simpa using h2) fun i hi => by simp at hi)
    · exact .junk
  · split
    · rename_i vs h
      exact .tup (by simpa using h) fun j hj => by simp at hj
    · exact .junk
  · split
    · rename_i h; exact .one (.t (RT_litT h))
    · exact .junk

theorem RA_ev {ρ : Nat → Option Nat} {ok : Nat → Prop} {σ : St} {a : Act} {w : World} (h : SR ρ ok σ a w) (x : Operand) : RA w ok ρ (ev σ.s x) (a.eval x) := by
  cases x with
  | tmp t => exact h.slots t
  | const v => exact RA_litA v
  | func f => exact .one (.fn rfl fun i hi => by simp at hi)
  | global g => exact .junk

end Go.Abs
namespace Go.Abs
open Go

theorem SR.lift {ρ ρ' : Nat → Option Nat} {ok ok' : Nat → Prop} {σ : St} {a : Act} {w w' : World} (h : SR ρ ok σ a w) (hk : Keeps ok w w') (hup : ∀ n, ok n → ok' n)
    (hs : ∀ n el k, w.shape? n = some (el, k) → w'.shape? n = some (el, k)) (hρ : ∀ b c, ρ b = some c → ρ' b = some c) (t : Nat) : RA w' ok' ρ' (σ.s t) (a.tmps.getD t undef) :=
  (h.slots t).mono hk hup hs hρ

theorem SR.putA {ρ : Nat → Option Nat} {ok : Nat → Prop} {σ : St} {a : Act} {w : World} (h : SR ρ ok σ a w) {d : Option Nat} {x : AV} {v : Value} (hd : dstOk σ.n d = true) (hx : RA w ok ρ x v) :
    SR ρ ok (σ.putO d x) (a.put d v) w := by
  cases d with
  | none => exact h
  | some d =>
    have hlt : d < a.tmps.size := by rw [h.size]; simpa [dstOk] using hd
    refine ⟨h.toHR, by simp [Act.put, St.putO, St.put, h.size], fun t => ?_, h.defers, h.small⟩
    simp only [St.putO, St.put, Act.put]
    by_cases htd : t = d
    · subst htd; simp [hlt, hx]
    · have := h.slots t
      simp only [htd, if_false]
      have e : (a.tmps.setIfInBounds d v).getD t undef = a.tmps.getD t undef := by
        simp [Array.getD_eq_getD_getElem?, Array.getElem?_setIfInBounds_ne (Ne.symm htd)]
      rw [e]; exact this

/-- A world with a block more. -/
def World.pushB (w : World) (o : Obj) : World := { w with heap := w.heap.push o }

theorem keeps_push {ok : Nat → Prop} {w : World} {o : Obj} (h : ∀ n, ok n → n < w.heap.size) : Keeps ok w { w with heap := w.heap.push o } := by
  intro n hn
  have := h n hn
  simp [Array.getElem?_push, Nat.ne_of_lt this]

theorem shape_push {w : World} {o : Obj} : ∀ n el k, w.shape? n = some (el, k) → ({ w with heap := w.heap.push o } : World).shape? n = some (el, k) := by
  intro n el k h
  have hn : n < w.heap.size := by
    rcases Nat.lt_or_ge n w.heap.size with h1 | h1
    · exact h1
    · simp [World.shape?, Array.getElem?_eq_none h1] at h
  unfold World.shape? at *
  simpa [Array.getElem?_push, Nat.ne_of_lt hn] using h

def ext (ρ : Nat → Option Nat) (d : Nat) (c : Option Nat) : Nat → Option Nat := fun b => if b = d then c else ρ b

/-- A new block of the walk's own. -/
theorem SR.push {ρ : Nat → Option Nat} {ok : Nat → Prop} {σ : St} {a : Act} {w : World} (h : SR ρ ok σ a w) {d : Nat} (hdp : d < PIN) (hd : σ.H d = none) {cs : List C} {arr : Array Value} {el : TypeId}
    (hlen : cs.length ≤ arr.size) (hc : ∀ j (hj : j < cs.length) (hj' : j < arr.size), RC w ok ρ cs[j] arr[j]) :
    SR (ext ρ d (some w.heap.size)) ok (σ.withH (upd σ.H d (some cs))) a { w with heap := w.heap.push (.cells arr el) } ∧
    Goes ρ ok w (ext ρ d (some w.heap.size)) ok { w with heap := w.heap.push (.cells arr el) } := by
  have hok : ∀ n, ok n → n < w.heap.size := fun n hn => (h.okR n hn).1
  have hρd := h.dom d hd
  have hρ : ∀ b c, ρ b = some c → ext ρ d (some w.heap.size) b = some c := fun b c hb => by
    unfold ext; split
    · subst b; rw [hρd] at hb; cases hb
    · exact hb
  have himg : ∀ b c, ρ b = some c → c < w.heap.size := fun b c hb => by
    cases hH : σ.H b with
    | none => rw [h.dom b hH] at hb; cases hb
    | some cs =>
      obtain ⟨c', arr', el', h1, h2, _⟩ := h.heap b cs hH
      rw [hb] at h1; cases h1
      rcases Nat.lt_or_ge c w.heap.size with h3 | h3
      · exact h3
      · simp [Array.getElem?_eq_none h3] at h2
  refine ⟨⟨⟨fun b cs' hb => ?_, fun b hb => ?_, fun b b' c h1 h2 => ?_, fun n hn => ⟨?_, fun b hb => ?_⟩⟩, h.size, fun t => h.lift (keeps_push hok) (fun _ h => h) shape_push hρ t, h.defers, h.small⟩, ⟨?_, ?_, shape_push, ?_, fun _ h => h, fun _ h => .inl h, fun b hb => .inl (by unfold ext; rw [if_neg (by omega)]), ⟨rfl, rfl⟩⟩⟩
  · simp only [St.withH, upd] at hb
    split at hb
    · subst b; cases hb
      refine ⟨w.heap.size, arr, el, by simp [ext], by simp, hlen, fun j hj hj' => ?_⟩
      exact (hc j hj hj').mono (keeps_push hok) (fun _ h => h) shape_push hρ
    · obtain ⟨c, arr', el', h1, h2, h3, h4⟩ := h.heap b cs' hb
      refine ⟨c, arr', el', hρ _ _ h1, ?_, h3, fun j hj hj' => (h4 j hj hj').mono (keeps_push hok) (fun _ h => h) shape_push hρ⟩
      have := himg b c h1
      simpa [Array.getElem?_push, Nat.ne_of_lt this] using h2
  · simp only [St.withH, upd] at hb
    split at hb
    · cases hb
    · rename_i hne; simp [ext, hne, h.dom b hb]
  · simp only [ext] at h1 h2
    split at h1 <;> split at h2
    · subst b; subst b'; rfl
    · cases h1; have := himg _ _ h2; omega
    · cases h2; have := himg _ _ h1; omega
    · exact h.inj b b' c h1 h2
  · have := hok n hn; simp; omega
  · simp only [ext] at hb
    split at hb
    · cases hb; have := hok _ hn; omega
    · exact (h.okR n hn).2 b hb
  · simp
  · intro n hn _; simp [Array.getElem?_push, Nat.ne_of_lt hn]
  · intro b n hb
    simp only [ext] at hb
    split at hb
    · cases hb; exact .inr (Nat.le_refl _)
    · exact .inl ⟨b, hb⟩

/-- A new block that nobody writes. -/
theorem SR.pushOk {ρ : Nat → Option Nat} {ok : Nat → Prop} {σ : St} {a : Act} {w : World} (h : SR ρ ok σ a w) (o : Obj) :
    SR ρ (fun n => ok n ∨ n = w.heap.size) σ a { w with heap := w.heap.push o } ∧
    Goes ρ ok w ρ (fun n => ok n ∨ n = w.heap.size) { w with heap := w.heap.push o } := by
  have hok : ∀ n, ok n → n < w.heap.size := fun n hn => (h.okR n hn).1
  have himg : ∀ b c, ρ b = some c → c < w.heap.size := fun b c hb => by
    cases hH : σ.H b with
    | none => rw [h.dom b hH] at hb; cases hb
    | some cs =>
      obtain ⟨c', arr', el', h1, h2, _⟩ := h.heap b cs hH
      rw [hb] at h1; cases h1
      rcases Nat.lt_or_ge c w.heap.size with h3 | h3
      · exact h3
      · simp [Array.getElem?_eq_none h3] at h2
  refine ⟨⟨⟨fun b cs' hb => ?_, h.dom, h.inj, fun n hn => ⟨?_, fun b hb => ?_⟩⟩, h.size, fun t => h.lift (keeps_push hok) (fun _ h => .inl h) shape_push (fun _ _ h => h) t, h.defers, h.small⟩, ⟨?_, ?_, shape_push, fun b n hb => .inl ⟨b, hb⟩, fun _ h => .inl h, fun n hn => ?_, fun _ _ => .inl rfl, ⟨rfl, rfl⟩⟩⟩
  · obtain ⟨c, arr', el', h1, h2, h3, h4⟩ := h.heap b cs' hb
    refine ⟨c, arr', el', h1, ?_, h3, fun j hj hj' => (h4 j hj hj').mono (keeps_push hok) (fun _ h => .inl h) shape_push (fun _ _ h => h)⟩
    have := himg b c h1
    simpa [Array.getElem?_push, Nat.ne_of_lt this] using h2
  · rcases hn with hn | rfl
    · have := hok n hn; simp; omega
    · simp
  · rcases hn with hn | rfl
    · exact (h.okR n hn).2 b hb
    · have := himg b _ hb; omega
  · simp
  · intro n hn _; simp [Array.getElem?_push, Nat.ne_of_lt hn]
  · rcases hn with hn | rfl
    · exact .inl hn
    · exact .inr (.inr (Nat.le_refl _))

/-! ### Writing into a block -/
section
variable {P : Program}

theorem storeCells_run {c off : Nat} {el : TypeId} : ∀ (vs : List Value) (i : Nat) (w : World) (arr : Array Value), w.heap[c]? = some (.cells arr el (0, 0)) → (∀ v ∈ vs, oneC v = true) → off + i + vs.length ≤ arr.size →
    ∃ w' arr', (storeCells ⟨c, off, none⟩ vs i).run P w = .ok () w' ∧ w'.heap.size = w.heap.size ∧ (∀ n, n ≠ c → w'.heap[n]? = w.heap[n]?) ∧ w'.heap[c]? = some (.cells arr' el (0, 0)) ∧ arr'.size = arr.size ∧
      (∀ j, arr'[j]? = if off + i ≤ j ∧ j < off + i + vs.length then vs[j - (off + i)]? else arr[j]?) ∧ (w'.os = w.os ∧ w'.output = w.output) := by
  intro vs
  induction vs with
  | nil =>
    intro i w arr h _ _
    refine ⟨w, arr, rfl, rfl, fun _ _ => rfl, h, rfl, fun j => ?_, ⟨rfl, rfl⟩⟩
    rw [if_neg (by simp)]
  | cons v rest ih =>
    intro i w arr h h1 h2
    simp only [List.length_cons] at h2
    have hcell : w.cell? ⟨c, off + i, none⟩ = some arr[off + i] := by simp [World.cell?, h]
    have hfr : w.frozen? ⟨c, off + i, none⟩ = false := by simp [World.frozen?, h]
    have hst : (store ⟨c, off + i, none⟩ v).run P w = .ok () (w.setCell ⟨c, off + i, none⟩ v) := by
      have hv := h1 v (by simp)
      unfold store
      cases v <;> first | (simp [oneC] at hv; done) | (simp only [Sem.run, hcell, hfr]; simp)
    have hset : (w.setCell ⟨c, off + i, none⟩ v).heap[c]? = some (.cells (arr.setIfInBounds (off + i) v) el (0, 0)) := by
      simp [World.setCell, Array.getElem?_modify, h]
    obtain ⟨w', arr', r1, r2, r3, r4, r5, r6, r7⟩ := ih (i + 1) (w.setCell ⟨c, off + i, none⟩ v) _ hset (fun x hx => h1 x (by simp [hx])) (by simp; omega)
    refine ⟨w', arr', ?_, ?_, fun n hn => ?_, r4, by simpa using r5, fun j => ?_, r7⟩
    · unfold storeCells
      rw [Sem.run_bind, add_none, hst]
      exact r1
    · rw [r2]; simp [World.setCell]
    · rw [r3 n hn]; simp [World.setCell, Array.getElem?_modify, Ne.symm hn]
    · rw [r6 j]
      simp only [List.length_cons]
      by_cases hj : j = off + i
      · subst hj
        rw [if_neg (by omega), if_pos (by omega)]
        rw [Array.getElem?_setIfInBounds_self_of_lt (by omega)]
        simp
      · by_cases hj2 : off + (i + 1) ≤ j ∧ j < off + (i + 1) + rest.length
        · rw [if_pos hj2, if_pos (by omega)]
          rw [show j - (off + i) = (j - (off + (i + 1))) + 1 by omega]
          simp
        · rw [if_neg hj2, if_neg (by omega)]
          rw [Array.getElem?_setIfInBounds_ne (by omega)]
end

theorem setCs_length {base cs : List C} {off : Nat} (h : off + cs.length ≤ base.length) : (setCs base off cs).length = base.length := by
  simp [setCs]; omega

theorem setCs_get {base cs : List C} {off : Nat} (h : off + cs.length ≤ base.length) (j : Nat) :
    (setCs base off cs)[j]? = if off ≤ j ∧ j < off + cs.length then cs[j - off]? else base[j]? := by
  unfold setCs
  by_cases h1 : j < off
  · rw [if_neg (by omega)]
    rw [List.append_assoc, List.getElem?_append_left (by simp; omega)]
    simp [h1]
  · by_cases h2 : j < off + cs.length
    · rw [if_pos (by omega)]
      rw [List.append_assoc, List.getElem?_append_right (by simp; omega), List.getElem?_append_left (by simp; omega)]
      congr 1; simp; omega
    · rw [if_neg (by omega)]
      rw [List.getElem?_append_right (by simp; omega)]
      simp only [List.getElem?_drop, List.length_append, List.length_take]
      congr 1; omega

/-- Writing cells into a block of the walk's own. -/
theorem SR.store {P : Program} {ρ : Nat → Option Nat} {ok : Nat → Prop} {σ : St} {a : Act} {w : World} (h : SR ρ ok σ a w) {b off c : Nat} {cs ns : List C} (hb : σ.H b = some cs) (hρb : ρ b = some c) {vs : List Value}
    (hlen : ns.length = vs.length) (hin : off + ns.length ≤ cs.length) (hns : ∀ j (hj : j < ns.length) (hj' : j < vs.length), RC w ok ρ ns[j] vs[j]) :
    ∃ w', (storeCells ⟨c, off, none⟩ vs 0).run P w = .ok () w' ∧ SR ρ ok (σ.withH (upd σ.H b (some (setCs cs off ns)))) a w' ∧ Goes ρ ok w ρ ok w' := by
  obtain ⟨c', arr, el, h1, h2, h3, h4⟩ := h.heap b cs hb
  rw [hρb] at h1; cases h1
  have hone : ∀ v ∈ vs, oneC v = true := fun v hv => by
    obtain ⟨j, hj, rfl⟩ := List.mem_iff_getElem.1 hv
    exact (hns j (by omega) hj).oneCell
  obtain ⟨w', arr', r1, r2, r3, r4, r5, r6, r7⟩ := storeCells_run (P := P) (c := c) (off := off) vs 0 w arr h2 hone (by omega)
  have hk : Keeps ok w w' := fun n hn => r3 n (fun e => (h.okR n hn).2 b (e ▸ hρb))
  have hs : ∀ n el k, w.shape? n = some (el, k) → w'.shape? n = some (el, k) := fun n el' k hsn => by
    by_cases hn : n = c
    · subst hn; simp [World.shape?, h2] at hsn; simp [World.shape?, r4, r5, hsn]
    · simpa [World.shape?, r3 n hn] using hsn
  refine ⟨w', r1, ⟨⟨fun b' cs' hb' => ?_, fun b' hb' => ?_, h.inj, fun n hn => ⟨by rw [r2]; exact (h.okR n hn).1, (h.okR n hn).2⟩⟩, h.size, fun t => h.lift hk (fun _ h => h) hs (fun _ _ h => h) t, h.defers, h.small⟩, ⟨by omega, fun n hn hb' => r3 n (fun e => hb' b (e ▸ hρb)), hs, fun b' n hb' => .inl ⟨b', hb'⟩, fun _ h => h, fun _ h => .inl h, fun _ _ => .inl rfl, r7⟩⟩
  · simp only [St.withH, upd] at hb'
    split at hb'
    · subst b'; cases hb'
      refine ⟨c, arr', el, hρb, r4, by rw [setCs_length hin, r5]; exact h3, fun j hj hj' => ?_⟩
      rw [setCs_length hin] at hj
      have e1 := setCs_get hin j
      have e2 := r6 j
      simp only [Nat.add_zero] at e2
      by_cases hr : off ≤ j ∧ j < off + ns.length
      · rw [if_pos hr, List.getElem?_eq_getElem (by rw [setCs_length hin]; exact hj), List.getElem?_eq_getElem (by omega)] at e1
        rw [if_pos (by omega), Array.getElem?_eq_getElem hj', List.getElem?_eq_getElem (by omega)] at e2
        have e1' := Option.some.inj e1
        have e2' := Option.some.inj e2
        rw [e1', e2']
        exact (hns _ (by omega) (by omega)).mono hk (fun _ h => h) hs (fun _ _ h => h)
      · rw [if_neg hr, List.getElem?_eq_getElem (by rw [setCs_length hin]; exact hj), List.getElem?_eq_getElem hj] at e1
        rw [if_neg (by omega), Array.getElem?_eq_getElem hj', Array.getElem?_eq_getElem (by omega)] at e2
        have e1' := Option.some.inj e1
        have e2' := Option.some.inj e2
        rw [e1', e2']
        exact (h4 j hj (by omega)).mono hk (fun _ h => h) hs (fun _ _ h => h)
    · rename_i hne
      obtain ⟨c', arr2, el2, g1, g2, g3, g4⟩ := h.heap b' cs' hb'
      have hcne : c' ≠ c := fun e => hne (h.inj b' b c' g1 (e ▸ hρb))
      exact ⟨c', arr2, el2, g1, by rw [r3 c' hcne]; exact g2, g3, fun j hj hj' => (g4 j hj hj').mono hk (fun _ h => h) hs (fun _ _ h => h)⟩
  · simp only [St.withH, upd] at hb'
    split at hb'
    · cases hb'
    · exact h.dom b' hb'

end Go.Abs
namespace Go.Abs
open Go

def OpRes (P : Program) (o : Oper) (σ : St) (x : AV) (H' : Heap) (ρ : Nat → Option Nat) (ok : Nat → Prop) (a : Act) (w : World) : Prop :=
  ∃ nx v w' ρ' ok', (execOp a.eval o).run P w = .ok nx w' ∧ (nx = .value v ∨ (nx = .skip ∧ v = undef)) ∧ RA w' ok' ρ' x v ∧ SR ρ' ok' (σ.withH H') a w' ∧ Goes ρ ok w ρ' ok' w'

theorem withH_self (σ : St) : σ.withH σ.H = σ := rfl

section
variable {P : Program} {o : Oper} {σ : St} {ρ : Nat → Option Nat} {ok : Nat → Prop} {a : Act} {w : World}

theorem OpRes.value (h : SR ρ ok σ a w) {x : AV} {v : Value} (hr : (execOp a.eval o).run P w = .ok (.value v) w) (hx : RA w ok ρ x v) : OpRes P o σ x σ.H ρ ok a w :=
  ⟨_, v, w, ρ, ok, hr, .inl rfl, hx, h, Goes.refl _ _ _⟩

theorem RA.boolOf {x : AV} {v : Value} {b : Bool} (h : RA w ok ρ x v) (hb : x.boolOf = some b) : v = .bool b := by
  unfold AV.boolOf at hb
  split at hb
  · cases hb
    cases h with | one h => cases h with | t h => cases h; rfl
  · cases hb

theorem RA.intOf {x : AV} {v : Value} {k : IntKind} {n : Int} (h : RA w ok ρ x v) (hb : x.intOf = some (k, n)) : v = .int k n := by
  unfold AV.intOf at hb
  split at hb
  · cases hb
    cases h with | one h => cases h with | t h => cases h; rfl
  · cases hb

theorem RA.cellsOf {x : AV} {v : Value} {cs : List C} (h : RA w ok ρ x v) (hc : x.cellsOf = some cs) :
    v.cells.size = cs.length ∧ ∀ j (hj : j < cs.length) (hj' : j < v.cells.size), RC w ok ρ cs[j] v.cells[j] := by
  unfold AV.cellsOf at hc
  split at hc
  · cases hc
    cases h with
    | one h =>
      rw [cells_one h.oneCell]
      refine ⟨rfl, fun j hj hj' => ?_⟩
      simp at hj
      subst hj
      simpa using h
  · cases hc
    cases h with
    | agg h1 h2 => exact ⟨h1, h2⟩
  · cases hc

theorem v_run {s : Sem Value} {v : Value} {w' : World} (h : s.run P w = .ok v w') : (do pure (Next.value (← s)) : Sem Next).run P w = .ok (.value v) w' := by
  rw [Sem.run_bind, h]; rfl

theorem u_run {s : Sem Unit} {w' : World} (h : s.run P w = .ok () w') : (do s; pure .skip : Sem Next).run P w = .ok .skip w' := by
  rw [Sem.run_bind, h]; rfl

/-! #### One operation after the other -/
theorem op_move (h : SR ρ ok σ a w) {x : Operand} (ho : o.op = .move x ∨ o.op = .assign x) : OpRes P o σ (ev σ.s x) σ.H ρ ok a w := by
  refine .value h (v := a.eval x) ?_ (RA_ev h x)
  rcases ho with ho | ho <;> simp only [execOp, ho] <;> rfl

theorem op_pick (h : SR ρ ok σ a w) {c x y : Operand} (ho : o.op = .pick c x y) (hc : (ev σ.s c).boolOf.isSome = true) :
    OpRes P o σ (if (ev σ.s c).boolOf = some true then ev σ.s x else ev σ.s y) σ.H ρ ok a w := by
  obtain ⟨b, hb⟩ := Option.isSome_iff_exists.1 hc
  have hv := (RA_ev h c).boolOf hb
  rw [hb]
  refine .value h (v := if b then a.eval x else a.eval y) ?_ ?_
  · simp only [execOp, ho, hv]; simp [asBool]
  · cases b <;> simp [RA_ev h]

theorem litCs_tzero {t : TypeId} {z : List C} (hz : tzero P t = some z) : ∃ v, (P.info? t).bind (·.zero) = some v ∧ litCs v.cells.toList = some z := by
  unfold tzero at hz
  cases h : (P.info? t).bind (·.zero) with
  | none => simp [h] at hz
  | some v => exact ⟨v, rfl, by simpa [h] using hz⟩

theorem op_alloc (h : SR ρ ok σ a w) {t : TypeId} (ho : o.op = .alloc t) {d : Nat} (h1 : tok P t = true) (h2 : (tzero P t).isSome = true) (h3 : σ.H d = none) (hdp : d < PIN) :
    OpRes P o σ (.one (.ptr d 0)) (upd σ.H d (tzero P t)) ρ ok a w := by
  obtain ⟨z, hz⟩ := Option.isSome_iff_exists.1 h2
  obtain ⟨v, hv1, hv2⟩ := litCs_tzero hz
  obtain ⟨l1, l2⟩ := RCs_litCs (w := w) (ok := ok) (ρ := ρ) hv2
  obtain ⟨s1, s2⟩ := h.push (d := d) hdp h3 (cs := z) (arr := v.cells) (el := t) (by simp at l1; omega) (fun j hj hj' => by have := l2 j hj (by simpa using hj'); rwa [Array.getElem_toList] at this)
  rw [hz]
  refine ⟨_, .pointer (some ⟨w.heap.size, 0, none⟩), _, _, _, ?_, .inl rfl, .one (.ptr (by simp [ext])), s1, s2⟩
  simp only [execOp, ho]
  refine v_run ?_
  unfold Instr.alloc
  rw [Sem.run_bind, run_zeroValue h1 hv1]
  simp [Result.andThen, newVar, newRow, newObj, Sem.run]

theorem op_box (h : SR ρ ok σ a w) {t : TypeId} {x : Operand} (ho : o.op = .box t x) {d : Nat} (h2 : (ev σ.s x).cellsOf.isSome = true) (h3 : σ.H d = none) (hdp : d < PIN) :
    OpRes P o σ (.one (.ptr d 0)) (upd σ.H d (ev σ.s x).cellsOf) ρ ok a w := by
  obtain ⟨z, hz⟩ := Option.isSome_iff_exists.1 h2
  obtain ⟨l1, l2⟩ := (RA_ev h x).cellsOf hz
  obtain ⟨s1, s2⟩ := h.push (d := d) hdp h3 (cs := z) (arr := (a.eval x).cells) (el := t) (by omega) l2
  rw [hz]
  refine ⟨_, .pointer (some ⟨w.heap.size, 0, none⟩), _, _, _, ?_, .inl rfl, .one (.ptr (by simp [ext])), s1, s2⟩
  simp only [execOp, ho]
  refine v_run ?_
  unfold Instr.box
  simp [newVar, newRow, newObj, Sem.run]

/-- What lies at an address reads so. -/
theorem cellsAt_spec (h : SR ρ ok σ a w) {x : AV} {v : Value} (hx : RA w ok ρ x v) {cs : List C} (hc : cellsAt σ.H x = some cs) :
    ∃ c off, v = .pointer (some ⟨c, off, none⟩) ∧ ∃ u : Nat → Value, (∀ j, j < cs.length → w.cell? ⟨c, off + j, none⟩ = some (u j)) ∧ ∀ j (hj : j < cs.length), RC w ok ρ cs[j] (u j) := by
  unfold cellsAt at hc
  split at hc
  · rename_i b off
    simp only [Option.map_eq_some_iff] at hc
    obtain ⟨bs, hb, rfl⟩ := hc
    cases hx with
    | one hx =>
      cases hx with
      | ptr hρ =>
        rename_i c
        obtain ⟨c', arr, el, h1, h2, h3, h4⟩ := h.heap b bs hb
        rw [hρ] at h1; cases h1
        refine ⟨c, off, rfl, fun j => arr.getD (off + j) undef, fun j hj => ?_, fun j hj => ?_⟩
        · simp at hj
          have : off + j < arr.size := by omega
          simp [World.cell?, h2, this]
        · have hj' := hj
          simp at hj
          have : off + j < arr.size := by omega
          have hg := h4 (off + j) (by omega) this
          simpa [this] using hg
  · rename_i ts
    cases hc
    cases hx with
    | iptr g1 g2 g3 =>
      rename_i blk off u
      exact ⟨blk, off, rfl, u, fun j hj => g2 j (by simpa using hj), fun j hj => by simpa using RC.t (g3 j (by simpa using hj))⟩
  · cases hc

theorem op_load (h : SR ρ ok σ a w) {t : TypeId} {x : Operand} (ho : o.op = .load t x) (h1 : tok P t = true) (h2 : (cellsAt σ.H (ev σ.s x)).isSome = true)
    (h3 : (if tagg P t then tsize P t else 1) ≤ ((cellsAt σ.H (ev σ.s x)).getD []).length) :
    OpRes P o σ (if tagg P t then .agg (((cellsAt σ.H (ev σ.s x)).getD []).take (tsize P t)) else .one (((cellsAt σ.H (ev σ.s x)).getD []).headD default)) σ.H ρ ok a w := by
  obtain ⟨cs, hcs⟩ := Option.isSome_iff_exists.1 h2
  rw [hcs] at h3 ⊢
  simp only [Option.getD_some] at h3 ⊢
  obtain ⟨c, off, hv, u, hu, hr⟩ := cellsAt_spec h (RA_ev h x) hcs
  refine .value h (v := if tagg P t then .agg ((List.range (tsize P t)).map u).toArray else u 0) ?_ ?_
  · simp only [execOp, ho]
    refine v_run ?_
    unfold Instr.loadAt
    rw [Sem.run_bind, hv]
    simp only [Instr.sureAddr, Sem.run_pure, Result.andThen]
    exact loadVar_run h1 u (fun j hj => hu j (by omega))
  · cases hg : tagg P t with
    | true =>
      simp only [hg, if_true] at h3
      simp only [if_true]
      refine .agg (by simp; omega) fun j hj hj' => ?_
      simp at hj hj'
      simpa using hr j (by omega)
    | false =>
      simp only [hg, Bool.false_eq_true, if_false] at h3
      simp only [Bool.false_eq_true, if_false]
      cases cs with
      | nil => simp at h3
      | cons c0 l => exact .one (hr 0 (by simp))

theorem op_store (h : SR ρ ok σ a w) {t : TypeId} {x y : Operand} (ho : o.op = .store t x y) (h1 : tok P t = true) {b off : Nat} (hx : ev σ.s x = .one (.ptr b off)) {cs ns : List C} (hb : σ.H b = some cs)
    (hy : (ev σ.s y).cellsOf = some ns) (h2 : ns.length = tsize P t) (h3 : off + ns.length ≤ cs.length) :
    OpRes P o σ undefA (upd σ.H b (some (setCs cs off ns))) ρ ok a w := by
  have hax := RA_ev h x
  rw [hx] at hax
  generalize hex : a.eval x = vx at hax
  cases hax with
  | one hax =>
    cases hax with
    | ptr hρ =>
      rename_i c
      obtain ⟨l1, l2⟩ := (RA_ev h y).cellsOf hy
      obtain ⟨w', r1, r2, r3⟩ := h.store (P := P) hb hρ (vs := (a.eval y).cells.toList) (by simpa using l1.symm) h3 (fun j hj hj' => by simpa using l2 j hj (by simpa using hj'))
      refine ⟨_, undef, w', ρ, ok, ?_, .inr ⟨rfl, rfl⟩, .tup rfl (fun j hj => by simp at hj), r2, r3⟩
      simp only [execOp, ho, hex]
      refine u_run ?_
      unfold Instr.storeAt
      rw [Sem.run_bind]
      simp only [Instr.sureAddr, Sem.run_pure, Result.andThen]
      unfold storeVar
      rw [Sem.run_bind, run_sizeOf h1]
      simp only [Result.andThen]
      rw [if_neg (by rw [l1, h2]; simp)]
      exact r1

theorem op_nilCheck (h : SR ρ ok σ a w) {x : Operand} (ho : o.op = .nilCheck x) (h1 : isAddr (ev σ.s x) = true) : OpRes P o σ (ev σ.s x) σ.H ρ ok a w := by
  have hax := RA_ev h x
  refine .value h (v := a.eval x) ?_ hax
  simp only [execOp, ho]
  generalize ev σ.s x = y at *
  generalize a.eval x = v at *
  unfold isAddr at h1
  split at h1
  · cases hax with | one hax => cases hax; rfl
  · cases hax; rfl
  · cases h1

end
end Go.Abs
namespace Go.Abs
open Go

section
variable {P : Program} {w : World}

theorem mapM_run {α β : Type} (f : α → Sem β) (g : α → β) : ∀ (l : List α), (∀ x ∈ l, (f x).run P w = .ok (g x) w) → (l.mapM f).run P w = .ok (l.map g) w := by
  intro l
  induction l with
  | nil => intro _; simp [Sem.run_pure]
  | cons x l ih =>
    intro h
    rw [List.mapM_cons, Sem.run_bind, h x (by simp)]
    simp only [Result.andThen]
    rw [Sem.run_bind, ih fun y hy => h y (by simp [hy])]
    simp [Result.andThen]

theorem mapM_run_array {α β : Type} (f : α → Sem β) (g : α → β) (l : Array α) (h : ∀ x ∈ l.toList, (f x).run P w = .ok (g x) w) : (l.mapM f).run P w = .ok (l.map g) w := by
  obtain ⟨l⟩ := l
  rw [List.mapM_toArray, Sem.run_map, mapM_run f g l (by simpa using h)]
  simp [Result.andThen]

theorem foldl_set (off : Nat) : ∀ (l : List Value) (k : Nat) (arr : Array Value), off + k + l.length ≤ arr.size →
    ((l.zipIdx k).foldl (fun cs (x : Value × Nat) => cs.setIfInBounds (off + x.2) x.1) arr).size = arr.size ∧
    ∀ i, ((l.zipIdx k).foldl (fun cs (x : Value × Nat) => cs.setIfInBounds (off + x.2) x.1) arr)[i]? = if off + k ≤ i ∧ i < off + k + l.length then l[i - (off + k)]? else arr[i]? := by
  intro l
  induction l with
  | nil => intro k arr _; refine ⟨rfl, fun i => ?_⟩; rw [if_neg (by simp)]; rfl
  | cons v l ih =>
    intro k arr h
    simp only [List.length_cons] at h
    rw [List.zipIdx_cons, List.foldl_cons]
    obtain ⟨h1, h2⟩ := ih (k + 1) (arr.setIfInBounds (off + k) v) (by simp; omega)
    refine ⟨by rw [h1]; simp, fun i => ?_⟩
    rw [h2 i]
    simp only [List.length_cons]
    by_cases hj : i = off + k
    · subst hj
      rw [if_neg (by omega), if_pos (by omega), Array.getElem?_setIfInBounds_self_of_lt (by omega)]
      simp
    · by_cases hj2 : off + (k + 1) ≤ i ∧ i < off + (k + 1) + l.length
      · rw [if_pos hj2, if_pos (by omega), show i - (off + k) = (i - (off + (k + 1))) + 1 by omega]
        simp
      · rw [if_neg hj2, if_neg (by omega), Array.getElem?_setIfInBounds_ne (by omega)]

theorem fill_set (off : Nat) (vs arr : Array Value) (h : off + vs.size ≤ arr.size) :
    (vs.zipIdx.foldl (fun cs (x : Value × Nat) => cs.setIfInBounds (off + x.2) x.1) arr).size = arr.size ∧
    ∀ i, (vs.zipIdx.foldl (fun cs (x : Value × Nat) => cs.setIfInBounds (off + x.2) x.1) arr)[i]? = if off ≤ i ∧ i < off + vs.size then vs[i - off]? else arr[i]? := by
  have := foldl_set off vs.toList 0 arr (by simpa using h)
  rw [← Array.foldl_toList, Array.toList_zipIdx]
  simpa using this

theorem fill_rel {ok : Nat → Prop} {ρ : Nat → Option Nat} (place : Nat → Option (Nat × Nat)) : ∀ (parts : List (Nat × AV)) (pv : List (Nat × Value)) (cs cs' : List C) (arr : Array Value),
    pv.length = parts.length → (∀ j (h : j < parts.length) (h' : j < pv.length), parts[j].1 = pv[j].1 ∧ RA w ok ρ parts[j].2 pv[j].2) →
    arr.size = cs.length → (∀ j (h : j < cs.length) (h' : j < arr.size), RC w ok ρ cs[j] arr[j]) → fillA place cs parts = some cs' →
    ∃ arr', Instr.fill place arr pv = some arr' ∧ arr'.size = cs'.length ∧ ∀ j (h : j < cs'.length) (h' : j < arr'.size), RC w ok ρ cs'[j] arr'[j] := by
  intro parts
  induction parts with
  | nil =>
    intro pv cs cs' arr hl _ hs hr hf
    cases pv with
    | nil => simp [fillA] at hf; subst hf; exact ⟨arr, rfl, hs, hr⟩
    | cons _ _ => simp at hl
  | cons p parts ih =>
    intro pv cs cs' arr hl hp hs hr hf
    cases pv with
    | nil => simp at hl
    | cons q pv =>
      obtain ⟨i, x⟩ := p
      obtain ⟨i', v⟩ := q
      have h0 := hp 0 (by simp) (by simp)
      simp only [List.getElem_cons_zero] at h0
      obtain ⟨rfl, hx⟩ := h0
      unfold fillA at hf
      split at hf
      · rename_i off size ns hpl hc
        split at hf
        · rename_i hcond
          obtain ⟨hc1, hc2⟩ := hcond
          obtain ⟨l1, l2⟩ := hx.cellsOf hc
          obtain ⟨f1, f2⟩ := fill_set off v.cells arr (by omega)
          have hin : off + ns.length ≤ cs.length := by omega
          have hstep := ih pv (setCs cs off ns) cs' (v.cells.zipIdx.foldl (fun cs (x : Value × Nat) => cs.setIfInBounds (off + x.2) x.1) arr) (by simpa using hl)
            (fun j hj hj' => by have := hp (j + 1) (by simpa using hj) (by simpa using hj'); simpa using this) (by rw [f1, setCs_length hin]; exact hs) (fun j hj hj' => by
              rw [setCs_length hin] at hj
              have e1 := setCs_get hin j
              have e2 := f2 j
              by_cases hrg : off ≤ j ∧ j < off + ns.length
              · rw [if_pos hrg, List.getElem?_eq_getElem (by rw [setCs_length hin]; exact hj), List.getElem?_eq_getElem (by omega)] at e1
                rw [if_pos (by omega), Array.getElem?_eq_getElem hj', Array.getElem?_eq_getElem (by omega)] at e2
                rw [Option.some.inj e1, Option.some.inj e2]
                exact l2 _ (by omega) (by omega)
              · rw [if_neg hrg, List.getElem?_eq_getElem (by rw [setCs_length hin]; exact hj), List.getElem?_eq_getElem hj] at e1
                rw [if_neg (by omega), Array.getElem?_eq_getElem hj', Array.getElem?_eq_getElem (by omega)] at e2
                rw [Option.some.inj e1, Option.some.inj e2]
                exact hr j hj (by omega)) hf
          obtain ⟨arr', g1, g2⟩ := hstep
          refine ⟨arr', ?_, g2⟩
          unfold Instr.fill
          simp only [hpl]
          rw [if_neg (by simp; omega)]
          exact g1
        · cases hf
      · cases hf

end

section
variable {P : Program} {o : Oper} {σ : St} {ρ : Nat → Option Nat} {ok : Nat → Prop} {a : Act} {w : World}

theorem parts_rel (h : SR ρ ok σ a w) (parts : List (Nat × Operand)) : ∀ j (hj : j < (parts.map fun p => (p.1, ev σ.s p.2)).length) (hj' : j < (parts.map fun p => (p.1, a.eval p.2)).length),
    (parts.map fun p => (p.1, ev σ.s p.2))[j].1 = (parts.map fun p => (p.1, a.eval p.2))[j].1 ∧ RA w ok ρ (parts.map fun p => (p.1, ev σ.s p.2))[j].2 (parts.map fun p => (p.1, a.eval p.2))[j].2 := by
  intro j hj hj'
  simp only [List.getElem_map]
  exact ⟨by first | rfl | trivial, RA_ev h _⟩

theorem op_build (h : SR ρ ok σ a w) {t : TypeId} {parts : Array (Nat × Operand)} (ho : o.op = .build t parts) (h1 : tok P t = true) (h0 : partsTok P t = true)
    (h2 : (buildA P t (parts.toList.map fun p => (p.1, ev σ.s p.2))).isSome = true) :
    OpRes P o σ (.agg ((buildA P t (parts.toList.map fun p => (p.1, ev σ.s p.2))).getD [])) σ.H ρ ok a w := by
  obtain ⟨cs, hcs⟩ := Option.isSome_iff_exists.1 h2
  rw [hcs]
  unfold buildA at hcs
  split at hcs
  · rename_i z hz
    obtain ⟨v, hv1, hv2⟩ := litCs_tzero hz
    obtain ⟨l1, l2⟩ := RCs_litCs (w := w) (ok := ok) (ρ := ρ) hv2
    obtain ⟨arr', g1, g2, g3⟩ := fill_rel (w := w) (ok := ok) (ρ := ρ) (placesA P t) _ (parts.toList.map fun p => (p.1, a.eval p.2)) z cs v.cells (by simp) (parts_rel h parts.toList) (by simp at l1; omega)
      (fun j hj hj' => by have := l2 j hj (by simpa using hj'); rwa [Array.getElem_toList] at this) hcs
    refine .value h (v := .agg arr') ?_ (.agg g2 g3)
    simp only [execOp, ho]
    refine v_run ?_
    unfold Instr.build
    rw [Sem.run_bind, run_zeroValue h1 hv1]
    simp only [Result.andThen]
    rw [Sem.run_bind, run_underlying h1]
    simp only [Result.andThen]
    unfold partsTok at h0
    split at h0
    · rename_i fs hd
      simp only [hd]
      rw [Sem.run_bind, mapM_run_array (fun f : Field => (do pure (f.offset, ← sizeOf f.type) : Sem (Nat × Nat))) (fun f => (f.offset, tsize P f.type)) fs (fun f hf => by
        rw [Sem.run_bind, run_sizeOf (by simpa using (List.all_eq_true.1 h0) f hf)]; rfl)]
      simp only [Result.andThen]
      have e : (fun i => (fs.map fun f => (f.offset, tsize P f.type))[i]?) = placesA P t := by
        funext i; simp [placesA, hd]
      simp only [e]
      have e2 : (parts.map fun p => (p.1, a.eval p.2)).toList = parts.toList.map fun p => (p.1, a.eval p.2) := by simp
      rw [e2, g1]
      rfl
    · rename_i n e hd
      simp only [hd]
      rw [Sem.run_bind, run_sizeOf h0]
      simp only [Result.andThen]
      have e : (fun i => some (i * tsize P e, tsize P e)) = placesA P t := by
        funext i; simp [placesA, hd]
      have e2 : (parts.map fun p => (p.1, a.eval p.2)).toList = parts.toList.map fun p => (p.1, a.eval p.2) := by simp
      rw [e, e2, g1]
      rfl
    · cases h0
  · cases hcs

end
end Go.Abs
namespace Go.Abs
open Go

theorem repl_length {α : Type} (n : Nat) (l : List α) : (repl n l).length = n * l.length := by
  simp [repl]

theorem repl_succ {α : Type} (n : Nat) (l : List α) : repl (n + 1) l = l ++ repl n l := by
  simp [repl, List.replicate_succ]

theorem repl_get {α : Type} (l : List α) : ∀ (n i : Nat), i < n * l.length → (repl n l)[i]? = l[i % l.length]? := by
  intro n
  induction n with
  | zero => intro i h; simp at h
  | succ n ih =>
    intro i h
    rw [repl_succ]
    by_cases hi : i < l.length
    · rw [List.getElem?_append_left hi, Nat.mod_eq_of_lt hi]
    · rw [List.getElem?_append_right (by omega), ih (i - l.length) (by rw [Nat.succ_mul] at h; omega)]
      rw [Nat.mod_eq_sub_mod (a := i) (by omega)]

theorem chunk_length (sz : Nat) : ∀ (n : Nat) (l : List T), (chunk sz n l).length = n
  | 0, _ => rfl
  | n + 1, l => by simp [chunk, chunk_length sz n]

theorem chunk_get (sz : Nat) : ∀ (n : Nat) (l : List T) (i : Nat) (h : i < (chunk sz n l).length), (chunk sz n l)[i] = (l.drop (i * sz)).take sz
  | 0, _, i, h => by simp [chunk] at h
  | n + 1, l, 0, _ => by simp [chunk]
  | n + 1, l, i + 1, h => by
    have := chunk_get sz n (l.drop sz) i (by simpa [chunk] using h)
    simp only [chunk, List.getElem_cons_succ, this, List.drop_drop]
    congr 2
    rw [Nat.succ_mul]; omega

theorem chunk_len {sz n : Nat} {l : List T} (h : l.length = n * sz) : ∀ x ∈ chunk sz n l, x.length = sz := by
  intro x hx
  obtain ⟨i, hi, rfl⟩ := List.mem_iff_getElem.1 hx
  rw [chunk_get]
  rw [chunk_length] at hi
  have : (i + 1) * sz ≤ n * sz := Nat.mul_le_mul_right _ hi
  rw [Nat.succ_mul] at this
  simp; omega

theorem fillA_length {place : Nat → Option (Nat × Nat)} : ∀ {parts : List (Nat × AV)} {cs cs' : List C}, fillA place cs parts = some cs' → cs'.length = cs.length
  | [], cs, cs', h => by simp [fillA] at h; subst h; rfl
  | p :: parts, cs, cs', h => by
    obtain ⟨i, x⟩ := p
    unfold fillA at h
    split at h
    · split at h
      · rename_i hc; have := fillA_length h; rw [this, setCs_length (by omega)]
      · cases h
    · cases h

theorem toTs_spec {cs : List C} {ts : List T} (h : toTs cs = some ts) : cs = ts.map .t := by
  have hl := mapMO_length h
  apply List.ext_getElem (by simpa using hl.symm)
  intro i h1 h2
  have := mapMO_get h i h1 (by omega)
  simp only [List.getElem_map]
  cases hc : cs[i] with
  | t x => simp [hc] at this; rw [this]
  | ptr _ _ => simp [hc] at this
  | vec _ _ _ _ => simp [hc] at this
  | fn _ _ => simp [hc] at this

theorem slice_of {P : Program} {t : TypeId} (h : isSliceD (tdesc P t) = true) : tdesc P t = .slice (telem P t) := by
  cases hd : tdesc P t <;> simp [isSliceD, hd] at h
  simp [telem, hd]

section
variable {P : Program} {o : Oper} {σ : St} {ρ : Nat → Option Nat} {ok : Nat → Prop} {a : Act} {w : World}

theorem zeros_rel {z : List C} {v : Value} (l1 : z.length = v.cells.toList.length) (l2 : ∀ j (h : j < z.length) (h' : j < v.cells.toList.length), RC w ok ρ z[j] v.cells.toList[j]) (n : Nat) :
    ((Array.range (n * z.length)).map (v.cells[· % v.cells.size]!)).size = (repl n z).length ∧
    ∀ j (h : j < (repl n z).length) (h' : j < ((Array.range (n * z.length)).map (v.cells[· % v.cells.size]!)).size), RC w ok ρ (repl n z)[j] ((Array.range (n * z.length)).map (v.cells[· % v.cells.size]!))[j] := by
  refine ⟨by simp [repl_length], fun j hj hj' => ?_⟩
  rw [repl_length] at hj
  have hz : 0 < z.length := by rcases Nat.eq_zero_or_pos z.length with h0 | h0; · rw [h0] at hj; simp at hj
                               · exact h0
  have e := repl_get z n j hj
  have hm : j % z.length < z.length := Nat.mod_lt _ hz
  rw [List.getElem?_eq_getElem (by rw [repl_length]; exact hj), List.getElem?_eq_getElem hm] at e
  rw [Option.some.inj e]
  have hvs : v.cells.size = z.length := by simpa using l1.symm
  have hm' : j % v.cells.size < v.cells.size := by rw [hvs]; exact hm
  have hg : ((Array.range (n * z.length)).map (v.cells[· % v.cells.size]!))[j] = v.cells[j % v.cells.size] := by
    simp only [Array.getElem_map, Array.getElem_range]
    exact getElem!_pos v.cells _ hm'
  rw [hg]
  have := l2 (j % z.length) hm (by simpa [hvs] using hm)
  rw [Array.getElem_toList] at this
  simpa [hvs] using this

theorem op_buildSlice (h : SR ρ ok σ a w) {t : TypeId} {n : Nat} {parts : Array (Nat × Operand)} (ho : o.op = .buildSlice t n parts) (h1 : tok P t = true) (h2 : isSliceD (tdesc P t) = true) (h3 : tok P (telem P t) = true)
    (h4 : n * tsize P (telem P t) ≤ 2 ^ 24) (h5 : 0 < n * tsize P (telem P t)) (h6 : (tzero P (telem P t)).map (·.length) = some (tsize P (telem P t)))
    (h7 : (buildSliceA P t n (parts.toList.map fun p => (p.1, ev σ.s p.2))).isSome = true) :
    OpRes P o σ ((buildSliceA P t n (parts.toList.map fun p => (p.1, ev σ.s p.2))).getD .junk) σ.H ρ ok a w := by
  obtain ⟨x, hx⟩ := Option.isSome_iff_exists.1 h7
  rw [hx]
  simp only [Option.getD_some]
  unfold buildSliceA at hx
  dsimp only at hx
  split at hx
  · rename_i z hz
    rw [hz] at h6
    simp only [Option.map_some, Option.some.injEq] at h6
    split at hx
    · rename_i cs hcs
      simp only [Option.map_eq_some_iff] at hx
      obtain ⟨ts, hts, rfl⟩ := hx
      obtain ⟨v, hv1, hv2⟩ := litCs_tzero hz
      obtain ⟨l1, l2⟩ := RCs_litCs (w := w) (ok := ok) (ρ := ρ) hv2
      obtain ⟨z1, z2⟩ := zeros_rel l1 l2 n
      obtain ⟨arr', g1, g2, g3⟩ := fill_rel (w := w) (ok := ok) (ρ := ρ) _ _ (parts.toList.map fun p => (p.1, a.eval p.2)) _ cs _ (by simp) (parts_rel h parts.toList) z1 z2 hcs
      have hcl : cs.length = n * tsize P (telem P t) := by rw [fillA_length hcs, repl_length, h6]
      have hct := toTs_spec hts
      have htl : ts.length = n * tsize P (telem P t) := by rw [← hcl, hct]; simp
      obtain ⟨s1, s2⟩ := h.pushOk (.cells arr' (telem P t))
      have hk := keeps_push (o := .cells arr' (telem P t)) fun n hn => (h.okR n hn).1
      refine ⟨_, .slice (some ⟨w.heap.size, 0, none⟩) n n, _, ρ, _, ?_, .inl rfl, ?_, s1, s2⟩
      · simp only [execOp, ho]
        refine v_run ?_
        unfold Instr.buildSlice
        rw [Sem.run_bind, run_underlying h1, slice_of h2]
        simp only [Result.andThen]
        rw [Sem.run_bind, run_sizeOf h3]
        simp only [Result.andThen]
        rw [if_neg (by omega), if_neg (by omega), Sem.run_bind, run_zeroValue h3 hv1]
        simp only [Result.andThen, Sem.run_bind, Sem.run_pure]
        have e2 : (parts.map fun p => (p.1, a.eval p.2)).toList = parts.toList.map fun p => (p.1, a.eval p.2) := by simp
        rw [e2, ← h6]
        rw [← h6] at g1
        rw [g1]
        simp only [newRow, newObj]
        rfl
      · have hvc : ∀ i, i < n * tsize P (telem P t) → ({ w with heap := w.heap.push (.cells arr' (telem P t)) } : World).cell? ⟨w.heap.size, 0 + i, none⟩ = some (arr'.getD i undef) := fun i hi => by
          have : i < arr'.size := by omega
          simp [World.cell?, this]
        have hlt : ∀ i j, i < n → j < tsize P (telem P t) → i * tsize P (telem P t) + j < n * tsize P (telem P t) := fun i j hi hj => by
          have : (i + 1) * tsize P (telem P t) ≤ n * tsize P (telem P t) := Nat.mul_le_mul_right _ hi
          rw [Nat.succ_mul] at this; omega
        have hcl2 : ∀ i (hi : i < (chunk (tsize P (telem P t)) n ts).length), (chunk (tsize P (telem P t)) n ts)[i].length = tsize P (telem P t) := fun i hi => chunk_len htl _ (List.getElem_mem hi)
        refine .one (.t (.seq (sz := tsize P (telem P t)) (u := fun i j => arr'.getD (i * tsize P (telem P t) + j) undef) (blk := w.heap.size) (off := 0) (chunk_length _ _ _).symm (Nat.le_refl _) (fun h => by cases h) (fun h => by cases h) (fun _ => by simp) (chunk_len htl) (fun _ => ⟨rfl, .inr rfl⟩) (fun i hi j hj => ?_) (fun i hi j hj => ?_)))
        · rw [hcl2 i hi] at hj
          rw [chunk_length] at hi
          exact hvc _ (hlt i j hi hj)
        · have hj0 := hj
          rw [hcl2 i hi] at hj
          have hi' := hi
          rw [chunk_length] at hi'
          have hlt' := hlt i j hi' hj
          have hcs' := g3 (i * tsize P (telem P t) + j) (by omega) (by omega)
          have e1 : cs[i * tsize P (telem P t) + j]'(by omega) = .t ((chunk (tsize P (telem P t)) n ts)[i][j]) := by
            have : (chunk (tsize P (telem P t)) n ts)[i][j] = ts[i * tsize P (telem P t) + j]'(by omega) := by
              simp only [chunk_get]; simp
            rw [this]
            simp only [hct]; simp
          rw [e1] at hcs'
          cases hcs' with
          | t hrt =>
            have hsz : i * tsize P (telem P t) + j < arr'.size := by omega
            have e3 : arr'.getD (i * tsize P (telem P t) + j) undef = arr'[i * tsize P (telem P t) + j] := by simp [hsz]
            rw [e3]
            exact hrt.mono hk (fun _ h => .inl h)
    · cases hx
  · cases hx

theorem op_makeSlice (h : SR ρ ok σ a w) {t : TypeId} {l c : Operand} (ho : o.op = .makeSlice t l c) {d : Nat} (h1 : tok P t = true) (h2 : isSliceD (tdesc P t) = true) (h3 : tok P (telem P t) = true)
    (h4 : (tzero P (telem P t)).isSome = true) (h5 : ((tzero P (telem P t)).getD []).length = tsize P (telem P t)) (h6 : 0 < tsize P (telem P t)) (h7 : σ.H d = none) {kl kc : IntKind} {n m : Int}
    (hl : (ev σ.s l).intOf = some (kl, n)) (hc : (ev σ.s c).intOf = some (kc, m)) (h8 : 0 ≤ n) (h9 : n ≤ m) (h10 : m < 2 ^ 62) (h11 : tbytes P (telem P t) * m ≤ 2 ^ 47) (hdp : d < PIN) :
    OpRes P o σ (.one (.vec d (tsize P (telem P t)) 0 n.toNat)) (upd σ.H d (some (repl n.toNat ((tzero P (telem P t)).getD [])))) ρ ok a w := by
  obtain ⟨z, hz⟩ := Option.isSome_iff_exists.1 h4
  rw [hz] at h5 ⊢
  simp only [Option.getD_some] at h5 ⊢
  obtain ⟨v, hv1, hv2⟩ := litCs_tzero hz
  obtain ⟨l1, l2⟩ := RCs_litCs (w := w) (ok := ok) (ρ := ρ) hv2
  obtain ⟨z1, z2⟩ := zeros_rel l1 l2 m.toNat
  have hnm : n.toNat ≤ m.toNat := by omega
  have hpre : ∀ j, j < n.toNat * z.length → (repl n.toNat z)[j]? = (repl m.toNat z)[j]? := fun j hj => by
    rw [repl_get z _ j hj, repl_get z _ j (Nat.lt_of_lt_of_le hj (Nat.mul_le_mul_right _ hnm))]
  obtain ⟨s1, s2⟩ := h.push (d := d) hdp h7 (cs := repl n.toNat z) (arr := (Array.range (m.toNat * z.length)).map (v.cells[· % v.cells.size]!)) (el := telem P t) (by rw [z1, repl_length, repl_length]; exact Nat.mul_le_mul_right _ hnm) (fun j hj hj' => by
    have hj2 := hj
    rw [repl_length] at hj2
    have e := hpre j hj2
    have hj3 : j < (repl m.toNat z).length := by rw [← z1]; exact hj'
    rw [List.getElem?_eq_getElem hj, List.getElem?_eq_getElem hj3] at e
    rw [Option.some.inj e]
    exact z2 j hj3 hj')
  refine ⟨_, .slice (some ⟨w.heap.size, 0, none⟩) n.toNat m.toNat, _, _, ok, ?_, .inl rfl, ?_, s1, s2⟩
  · simp only [execOp, ho, (RA_ev h l).intOf hl, (RA_ev h c).intOf hc]
    refine v_run ?_
    obtain ⟨i, hi, hti⟩ := run_typeInfo (w := w) h3
    have hb : tbytes P (telem P t) = i.bytes := by simp [tbytes, hi]
    have hw1 : IntKind.i64.wrap n = n := IntWalk.i64_in _ (by omega)
    have hw2 : IntKind.i64.wrap m = m := IntWalk.i64_in _ (by omega)
    unfold Instr.makeSlice
    rw [Sem.run_bind, run_underlying h1, slice_of h2]
    simp only [Result.andThen]
    rw [Sem.run_bind]
    simp only [asInt, asIntOf, Sem.run_bind, Sem.run_pure, Result.andThen, hti, hw1, hw2, ← hb]
    rw [if_neg (by simp; omega)]
    have hroom : ¬ (m.toNat * tbytes P (telem P t) > roomBytes) := by
      unfold roomBytes
      have : ((m.toNat * tbytes P (telem P t) : Nat) : Int) ≤ 2 ^ 47 := by
        rw [Int.natCast_mul, Int.toNat_of_nonneg (by omega), Int.mul_comm]; exact h11
      omega
    rw [Sem.run_bind]
    simp only [askRoom, if_neg hroom, Sem.run_pure, Result.andThen, Sem.run_bind, run_sizeOf h3]
    by_cases hm0 : m.toNat * tsize P (telem P t) = 0
    · rw [if_pos hm0]
      have : m.toNat = 0 := by rcases Nat.mul_eq_zero.1 hm0 with h0 | h0; · exact h0
                               · omega
      simp only [Sem.run_pure, Result.andThen, hm0, newRow, newObj, Sem.run_bind]
      simp [this, Sem.run]
      have e : Array.range 0 = #[] := rfl
      rw [e]; simp
    · rw [if_neg hm0]
      simp only [Sem.run_bind, run_zeroValue h3 hv1, Result.andThen, Sem.run_pure, newRow, newObj, h5]
      rfl
  · refine .one (.vec (c := w.heap.size) (n := m.toNat * z.length) (by simp [ext]) hnm ⟨telem P t, ?_⟩ (by rw [h5]; omega))
    simp [World.shape?]

end
end Go.Abs
namespace Go.Abs
open Go

section
variable {P : Program} {o : Oper} {σ : St} {ρ : Nat → Option Nat} {ok : Nat → Prop} {a : Act} {w : World}

theorem binI_run {op : BinOp} {k : IntKind} {x y : Int} {v : Value} (h : binI op k x y = some v) (hd : divides op = true → y ≠ 0) (t : TypeId) (ox oy : Operand) :
    (do eqGuard op t ox oy (.int k x) (.int k y); binOp op t (.int k x) (.int k y) : Sem Value).run P w = .ok v w := by
  by_cases hsh : op = .shr
  · subst hsh
    simp only [binI] at h
    split at h
    · rename_i hy
      cases h
      have hg : (eqGuard .shr t ox oy (.int k x) (.int k y)).run P w = .ok () w := by simp [eqGuard]
      rw [Sem.run_bind, hg]
      show (Op.shift .shr k x k y).run P w = _
      unfold Op.shift
      rw [if_neg (by omega)]
      rfl
    · cases h
  cases op <;> first | exact (hsh rfl).elim | skip
  all_goals simp only [binI, Option.some.injEq, reduceCtorEq] at h
  all_goals subst h
  case quo => simp [eqGuard, binOp, Op.intDiv, hd rfl]
  case rem => simp [eqGuard, binOp, Op.intDiv, hd rfl]
  all_goals simp [eqGuard, binOp, Op.intArith, Op.intCmp]
  all_goals rfl

theorem eql_run {t : TypeId} {x y : Value} {b : Bool} (hg : ∀ op ox oy, (eqGuard op t ox oy x y).run P w = .ok () w) (h : (Op.equal t x y).run P w = .ok b w)
    (hb : ∀ op, (op = .eql ∨ op = .neq) → (binOp op t x y : Sem Value) = (match op with | .eql => (do pure (.bool (← Op.equal t x y))) | _ => (do pure (.bool (!(← Op.equal t x y)))))) {op : BinOp} (ho : op = .eql ∨ op = .neq) (ox oy : Operand) :
    (do eqGuard op t ox oy x y; binOp op t x y : Sem Value).run P w = .ok (.bool (if op = .eql then b else !b)) w := by
  rw [Sem.run_bind, hg]
  simp only [Result.andThen]
  rw [hb op ho]
  rcases ho with rfl | rfl
  · simp only []; rw [Sem.run_bind, h]; rfl
  · simp only []; rw [Sem.run_bind, h]; rfl

theorem ptr_equal {t : TypeId} (ht : tok P t = true) (hd : isPtrD (tdesc P t) = true) {w : World} (p : Option Addr) : (Op.equal t (.pointer p) (.pointer none)).run P w = .ok p.isNone w := by
  unfold Op.equal Op.maxDepth Op.equalIn
  rw [Sem.run_bind, run_underlying ht]
  cases h : tdesc P t with
  | pointer e =>
    cases p with
    | none => rfl
    | some a => rfl
  | _ => rw [h] at hd; cases hd
theorem RA.ptr_inv {b off : Nat} {v : Value} (h : RA w ok ρ (.one (.ptr b off)) v) : ∃ c, ρ b = some c ∧ v = .pointer (some ⟨c, off, none⟩) := by
  cases h with | one h => cases h with | ptr hρ => exact ⟨_, hρ, rfl⟩

theorem RA.seq_inv {nl : Option Bool} {xs : List (List T)} {v : Value} (h : RA w ok ρ (.one (.t (.seq nl xs))) v) :
    ∃ A c, v = .slice A xs.length c ∧ xs.length ≤ c ∧ (nl = some true → A = none) ∧ (nl = some false → A ≠ none) := by
  cases h with | one h => cases h with | t h => cases h with | seq g1 g2 _ g3 g4 _ _ _ _ =>
  subst g1
  exact ⟨_, _, rfl, g2, g3, g4⟩

theorem op_binOp (h : SR ρ ok σ a w) {op : BinOp} {t t' : TypeId} {x y : Operand} (ho : o.op = .binOp op t x y t') (h1 : (binV op (ev σ.s x) (ev σ.s y)).isSome = true) (h2 : binOk op (ev σ.s y)) (h3 : binTy P t (ev σ.s x)) :
    OpRes P o σ ((binV op (ev σ.s x) (ev σ.s y)).getD .junk) σ.H ρ ok a w := by
  obtain ⟨r, hr⟩ := Option.isSome_iff_exists.1 h1
  rw [hr]
  simp only [Option.getD_some]
  have hax := RA_ev h x
  have hay := RA_ev h y
  suffices hs : ∃ v, (do eqGuard op t x y (a.eval x) (a.eval y); binOp op t (a.eval x) (a.eval y) : Sem Value).run P w = .ok v w ∧ RA w ok ρ r v by
    obtain ⟨v, hv1, hv2⟩ := hs
    refine .value h (v := v) ?_ hv2
    simp only [execOp, ho]
    exact v_run hv1
  generalize ev σ.s x = ax at *
  generalize ev σ.s y = ay at *
  generalize a.eval x = vx at *
  generalize a.eval y = vy at *
  unfold binV at hr
  split at hr
  · rename_i k n k' n'
    split at hr
    · rename_i hk
      subst hk
      simp only [Option.map_eq_some_iff] at hr
      obtain ⟨v, hv, rfl⟩ := hr
      cases hax with | one hax => cases hax with | t hax => cases hax with | lit _ =>
      cases hay with | one hay => cases hay with | t hay => cases hay with | lit _ =>
      refine ⟨v, binI_run hv h2 t x y, .one (.t (.lit ?_))⟩
      by_cases hsh : op = .shr
      · subst hsh
        simp only [binI] at hv
        split at hv
        · cases hv; rfl
        · cases hv
      cases op <;> first | exact (hsh rfl).elim | skip
      all_goals simp only [binI, Option.some.injEq, reduceCtorEq] at hv
      all_goals subst hv
      all_goals rfl
    · cases hr
  · rename_i b b'
    cases hax with | one hax => cases hax with | t hax => cases hax with | lit _ =>
    cases hay with | one hay => cases hay with | t hay => cases hay with | lit _ =>
    obtain ⟨ht1, ht2⟩ := h3
    have he : (Op.equal t (.bool b) (.bool b')).run P w = .ok (b == b') w := by
      unfold Op.equal Op.maxDepth Op.equalIn
      rw [Sem.run_bind, run_underlying ht1, ht2]
      rfl
    have hop : op = .eql ∨ op = .neq := by cases op <;> simp at hr <;> simp
    refine ⟨_, eql_run (fun op ox oy => by cases op <;> simp [eqGuard]) he (fun op ho => by rcases ho with rfl | rfl <;> rfl) hop x y, ?_⟩
    rcases hop with rfl | rfl <;> simp only [Option.some.injEq] at hr <;> subst hr <;> exact .one (.t (.lit rfl))
  · rename_i s s'
    cases hax with | one hax => cases hax with | t hax => cases hax with | lit _ =>
    cases hay with | one hay => cases hay with | t hay => cases hay with | lit _ =>
    have hg : ∀ q, (eqGuard op t x y (.string s) (.string s')).run P q = .ok () q := fun q => by unfold eqGuard; cases op <;> simp
    rw [Sem.run_bind, hg]
    simp only [Result.andThen]
    unfold strB at hr
    cases op <;> simp only [Option.some.injEq, reduceCtorEq] at hr
    case add =>
      split at hr
      · rename_i hlt
        simp only [Option.some.injEq] at hr
        subst hr
        refine ⟨.string (s ++ s'), ?_, .one (.t (.lit rfl))⟩
        show (Op.stringOp .add s s').run P w = _
        unfold Op.stringOp
        simp only []
        rw [if_neg (by have : IntKind.i64.max = 9223372036854775807 := rfl; rw [this]; omega)]
        rfl
      · cases hr
    all_goals
      subst hr
      exact ⟨_, rfl, .one (.t (.lit rfl))⟩
  · rename_i n xs
    obtain ⟨ht1, ht2⟩ := h3
    obtain ⟨A, c1, rfl, g2, g3, g4⟩ := hax.seq_inv
    obtain ⟨A', c2, rfl, f2, f3, f4⟩ := hay.seq_inv
    obtain rfl := f3 rfl
    have hop : op = .eql ∨ op = .neq := by cases op <;> simp at hr <;> simp
    have he : (Op.equal t (.slice A xs.length c1) (.slice none ([] : List (List T)).length c2)).run P w = .ok n w := by
      unfold Op.equal Op.maxDepth Op.equalIn
      rw [Sem.run_bind, run_underlying ht1, slice_of ht2]
      simp only [Result.andThen]
      cases A with
      | none => cases n with
        | true => rfl
        | false => exact absurd rfl (g4 rfl)
      | some ad => cases n with
        | true => simp at g3
        | false => rfl
    refine ⟨_, eql_run (fun op ox oy => by cases op <;> simp [eqGuard]) he (fun op ho => by rcases ho with rfl | rfl <;> rfl) hop x y, ?_⟩
    rcases hop with rfl | rfl <;> simp only [Option.some.injEq] at hr <;> subst hr <;> exact .one (.t (.lit rfl))
  · obtain ⟨ht1, ht2⟩ := h3
    cases hax with | one hax => cases hax with | vec g1 g2 g3 g4 =>
    obtain ⟨A', c2, rfl, f2, f3, f4⟩ := hay.seq_inv
    obtain rfl := f3 rfl
    have hop : op = .eql ∨ op = .neq := by cases op <;> simp at hr <;> simp
    refine ⟨_, eql_run (b := false) (fun op ox oy => by cases op <;> simp [eqGuard]) ?_ (fun op ho => by rcases ho with rfl | rfl <;> rfl) hop x y, ?_⟩
    · unfold Op.equal Op.maxDepth Op.equalIn
      rw [Sem.run_bind, run_underlying ht1, slice_of ht2]
      rfl
    · rcases hop with rfl | rfl <;> simp only [Option.some.injEq] at hr <;> subst hr <;> exact .one (.t (.lit rfl))
  · obtain ⟨ht1, ht2⟩ := h3
    cases hay with | one hay => cases hay with | t hay => cases hay with | lit _ =>
    cases hax with | iptr q1 q2 q3 =>
    have hop : op = .eql ∨ op = .neq := by cases op <;> simp at hr <;> simp
    refine ⟨_, eql_run (b := false) (fun op ox oy => by cases op <;> simp [eqGuard]) (ptr_equal ht1 ht2 _) (fun op ho => by rcases ho with rfl | rfl <;> rfl) hop x y, ?_⟩
    rcases hop with rfl | rfl <;> simp only [Option.some.injEq] at hr <;> subst hr <;> exact .one (.t (.lit rfl))
  · obtain ⟨ht1, ht2⟩ := h3
    cases hay with | one hay => cases hay with | t hay => cases hay with | lit _ =>
    cases hax with | one hax => cases hax with | t hax => cases hax with | lit _ =>
    have hop : op = .eql ∨ op = .neq := by cases op <;> simp at hr <;> simp
    refine ⟨_, eql_run (b := true) (fun op ox oy => by cases op <;> simp [eqGuard]) (ptr_equal ht1 ht2 none) (fun op ho => by rcases ho with rfl | rfl <;> rfl) hop x y, ?_⟩
    rcases hop with rfl | rfl <;> simp only [Option.some.injEq] at hr <;> subst hr <;> exact .one (.t (.lit rfl))
  · cases hr

theorem op_unOp (h : SR ρ ok σ a w) {op : UnOp} {t : TypeId} {x : Operand} (ho : o.op = .unOp op t x) (h1 : (unV op (ev σ.s x)).isSome = true) :
    OpRes P o σ ((unV op (ev σ.s x)).getD .junk) σ.H ρ ok a w := by
  obtain ⟨r, hr⟩ := Option.isSome_iff_exists.1 h1
  rw [hr]
  have hax := RA_ev h x
  simp only [Option.getD_some]
  suffices hs : ∃ v, (Op.unary op (a.eval x)).run P w = .ok v w ∧ RA w ok ρ r v by
    obtain ⟨v, hv1, hv2⟩ := hs
    refine .value h (v := v) ?_ hv2
    simp only [execOp, ho]
    exact v_run hv1
  generalize ev σ.s x = ax at *
  generalize a.eval x = vx at *
  unfold unV at hr
  split at hr
  · cases hax with | one hax => cases hax with | t hax => cases hax with | lit _ =>
    cases op <;> simp only [Option.some.injEq, reduceCtorEq] at hr
    subst hr
    exact ⟨_, rfl, .one (.t (.lit rfl))⟩
  · cases hax with | one hax => cases hax with | t hax => cases hax with | lit _ =>
    cases op <;> simp only [Option.some.injEq, reduceCtorEq] at hr
    subst hr
    exact ⟨_, rfl, .one (.t (.lit rfl))⟩
  · cases hr

theorem RA.seq_inv2 {nl : Option Bool} {xs : List (List T)} {v : Value} (h : RA w ok ρ (.one (.t (.seq nl xs))) v) :
    ∃ A c sz blk off, ∃ u : Nat → Nat → Value, v = .slice A xs.length c ∧ xs.length ≤ c ∧ (A = none → c = 0) ∧ (nl = some true → A = none) ∧ (nl = some false → A ≠ none) ∧ (∀ x ∈ xs, x.length = sz) ∧
      (xs ≠ [] → A = some ⟨blk, off, none⟩ ∧ ok blk) ∧ (∀ i (hi : i < xs.length) j, j < xs[i].length → w.cell? ⟨blk, off + (i * sz + j), none⟩ = some (u i j)) ∧
      (∀ i (hi : i < xs.length) j (hj : j < xs[i].length), RT w ok (xs[i][j]) (u i j)) := by
  cases h with | one h => cases h with | t h => cases h with | seq g1 g2 g0 g3 g4 g5 g6 g7 g8 =>
  subst g1
  exact ⟨_, _, _, _, _, _, rfl, g2, g0, g3, g4, g5, g6, g7, g8⟩

/-- The number of a byte in a sequence. -/
def bN (xs : List (List T)) (j : Nat) : Int := match xs[j]? with | some [.lit (.int .u8 n)] => n | _ => 0
theorem bytesT_spec : ∀ {xs : List (List T)} {l : List UInt8}, bytesT xs = some l → (l = (List.range xs.length).map fun j => UInt8.ofNat (bN xs j).toNat) ∧ ∀ x ∈ xs, x.length = 1 ∧ ∃ n, x = [.lit (.int .u8 n)]
  | [], l, h => by simp only [bytesT, Option.some.injEq] at h; subst h; exact ⟨rfl, fun x hx => by cases hx⟩
  | x :: xs, l, h => by
    unfold bytesT at h
    split at h
    · rename_i e; cases e
    · rename_i n l' e
      cases e
      simp only [Option.map_eq_some_iff] at h
      obtain ⟨m, hm, rfl⟩ := h
      obtain ⟨i1, i2⟩ := bytesT_spec hm
      refine ⟨?_, fun y hy => ?_⟩
      · rw [List.length_cons, List.range_succ_eq_map, List.map_cons, List.map_map, i1]
        rfl
      · rcases List.mem_cons.1 hy with rfl | hy
        · exact ⟨rfl, n, rfl⟩
        · exact i2 y hy
    · cases h
theorem bytes_loop (f : Nat → Int) : ∀ (l : List Nat), (do
    let mut s := ByteArray.empty
    for c in (l.map fun j => Value.int .u8 (f j)).toArray do
      let .int .u8 n := c | stuck "bytesToString: byte expected"
      s := s.push (UInt8.ofNat n.toNat)
    pure (.string s) : Sem Value).run P w = .ok (.string (strOf (l.map fun j => UInt8.ofNat (f j).toNat))) w := by
  intro l
  suffices h : ∀ (l : List Nat) (s0 : ByteArray), (do
      let mut s := s0
      for c in (l.map fun j => Value.int .u8 (f j)).toArray do
        let .int .u8 n := c | stuck "bytesToString: byte expected"
        s := s.push (UInt8.ofNat n.toNat)
      pure (.string s) : Sem Value).run P w = .ok (.string ((l.map fun j => UInt8.ofNat (f j).toNat).foldl ByteArray.push s0)) w from h l _
  intro l
  induction l with
  | nil => intro s0; simp
  | cons j l ih =>
    intro s0
    have := ih (s0.push (UInt8.ofNat (f j).toNat))
    simpa using this
theorem op_convert (h : SR ρ ok σ a w) {s t : TypeId} {x : Operand} (ho : o.op = .convert s t x) (h0 : tok P s = true) (h1 : tok P t = true) (h2 : (convV P s t (ev σ.s x)).isSome = true) :
    OpRes P o σ ((convV P s t (ev σ.s x)).getD .junk) σ.H ρ ok a w := by
  obtain ⟨r, hr⟩ := Option.isSome_iff_exists.1 h2
  rw [hr]
  have hax := RA_ev h x
  simp only [Option.getD_some]
  suffices hs : ∃ v, (convert s t (a.eval x)).run P w = .ok v w ∧ RA w ok ρ r v by
    obtain ⟨v, hv1, hv2⟩ := hs
    refine .value h (v := v) ?_ hv2
    simp only [execOp, ho]
    exact v_run hv1
  generalize ev σ.s x = ax at *
  generalize a.eval x = vx at *
  unfold convV at hr
  split at hr
  · cases hax with | one hax => cases hax with | t hax => cases hax with | lit _ =>
    simp only [Option.map_eq_some_iff] at hr
    obtain ⟨k, hk, rfl⟩ := hr
    have hd : tdesc P t = .int k := by
      unfold intD at hk; split at hk
      · rename_i hd; cases hk; exact hd
      · cases hk
    refine ⟨_, ?_, .one (.t (.lit rfl))⟩
    unfold convert
    rw [Sem.run_bind, run_underlying h0]
    simp only [Result.andThen]
    rw [Sem.run_bind, run_underlying h1, hd]
    simp only [Result.andThen]
    rfl
  · rename_i nl xs
    split at hr
    · rename_i hc
      simp only [Bool.and_eq_true] at hc
      obtain ⟨⟨⟨c1, c2⟩, c3⟩, c4⟩ := hc
      have d1 : tdesc P s = .slice (telem P s) := slice_of c1
      have d3 : tdesc P (telem P s) = .int .u8 := by
        unfold isU8D at c3; split at c3
        · assumption
        · cases c3
      have d4 : tdesc P t = .string := by
        unfold isStrD at c4; split at c4
        · assumption
        · cases c4
      simp only [Option.map_eq_some_iff] at hr
      obtain ⟨l, hl, rfl⟩ := hr
      obtain ⟨A, c, sz, blk, off, u, rfl, g2, g0, g3, g4, g5, g6, g7, g8⟩ := hax.seq_inv2
      refine ⟨.string (strOf l), ?_, .one (.t (.lit rfl))⟩
      unfold convert
      rw [Sem.run_bind, run_underlying h0]
      simp only [Result.andThen]
      rw [Sem.run_bind, run_underlying h1, d1, d4]
      simp only [Result.andThen]
      rw [Sem.run_bind, run_underlying c2, d3]
      simp only [Result.andThen]
      obtain ⟨b1, b2⟩ := bytesT_spec hl
      unfold Conv.bytesToString
      cases A with
      | none =>
        have hx : xs = [] := by
          by_cases e : xs = []
          · exact e
          · have := (g6 e).1; cases this
        subst hx
        simp only [bytesT, Option.some.injEq] at hl
        subst hl
        rfl
      | some ad =>
        by_cases hx : xs = []
        · subst hx
          simp only [bytesT, Option.some.injEq] at hl
          subst hl
          rfl
        · obtain ⟨e1, _⟩ := g6 hx
          cases e1
          have hsz : sz = 1 := by
            cases xs with
            | nil => exact absurd rfl hx
            | cons y ys => rw [← g5 y (by simp), (b2 y (by simp)).1]
          subst hsz
          have hcell : ∀ j, j < xs.length → w.cell? ⟨blk, off + j, none⟩ = some (.int .u8 (bN xs j)) := fun j hj => by
            obtain ⟨q1, n, q2⟩ := b2 _ (List.getElem_mem hj)
            have h7 := g7 j hj 0 (by omega)
            have h8 := g8 j hj 0 (by omega)
            have e2 : xs[j][0]'(by omega) = .lit (.int .u8 n) := by simp [q2]
            rw [e2] at h8
            have e3 : u j 0 = .int .u8 n := by generalize u j 0 = q at h8; cases h8; rfl
            have e4 : bN xs j = n := by unfold bN; simp [hj, q2]
            rw [e4, ← e3, ← h7]; simp
          simp only []
          rw [Sem.run_bind, loadCells_run (fun j => .int .u8 (bN xs j)) hcell]
          simp only [Result.andThen]
          rw [show l = (List.range xs.length).map fun j => UInt8.ofNat (bN xs j).toNat from b1]
          exact bytes_loop (P := P) (w := w) (fun j => bN xs j) (List.range xs.length)
    · cases hr
  · cases hr

theorem op_extract (h : SR ρ ok σ a w) {x : Operand} {i : Nat} (ho : o.op = .extract x i) {vs : List AV} (hx : ev σ.s x = .tup vs) (hi : i < vs.length) :
    OpRes P o σ (vs.getD i .junk) σ.H ρ ok a w := by
  have hax := RA_ev h x
  rw [hx] at hax
  generalize hex : a.eval x = vx at hax
  cases hax with
  | tup g1 g2 =>
    rename_i us
    have hi' : i < us.size := by omega
    refine .value h (v := us[i]) ?_ (by simpa [hi] using g2 i hi hi')
    simp only [execOp, ho, hex]
    refine v_run ?_
    simp [Instr.extract, hi']

theorem capsOf_spec : ∀ {xs : List AV} {caps : List (Nat × Nat)}, capsOf xs = some caps → caps.length = xs.length ∧ ∀ i (h : i < caps.length) (h' : i < xs.length), xs[i] = .one (.ptr caps[i].1 caps[i].2)
  | [], caps, h => by simp [capsOf] at h; subst h; exact ⟨rfl, fun i h => by simp at h⟩
  | x :: xs, caps, h => by
    unfold capsOf at h
    split at h
    · rename_i heq; cases heq
    · rename_i b off l heq
      cases heq
      simp only [Option.map_eq_some_iff] at h
      obtain ⟨c2, h2, rfl⟩ := h
      obtain ⟨l1, l2⟩ := capsOf_spec h2
      refine ⟨by simp [l1], fun i hi hi' => ?_⟩
      cases i with
      | zero => rfl
      | succ i => simpa using l2 i (by simpa using hi) (by simpa using hi')
    · cases h

theorem op_makeFunc (h : SR ρ ok σ a w) {f : FuncId} {first caps : Array Operand} (ho : o.op = .makeFunc (.func f) first caps) (h1 : first.size = 0) (h2 : (capsOf (caps.toList.map (ev σ.s))).isSome = true) :
    OpRes P o σ (.one (.fn f ((capsOf (caps.toList.map (ev σ.s))).getD []))) σ.H ρ ok a w := by
  obtain ⟨cs, hcs⟩ := Option.isSome_iff_exists.1 h2
  rw [hcs]
  obtain ⟨l1, l2⟩ := capsOf_spec hcs
  obtain rfl : first = #[] := Array.eq_empty_of_size_eq_zero h1
  refine .value h (v := .func (.func f) #[] (caps.map a.eval)) ?_ (.one (.fn (by simpa using l1.symm) fun i hi hi' => ?_))
  · simp only [execOp, ho]
    refine v_run ?_
    simp [Instr.makeFunc]
  · have hic : i < caps.toList.length := by simp at l1; simp at hi; simp; omega
    have hx := l2 i hi (by simpa using hic)
    have hr := RA_ev h caps.toList[i]
    simp only [List.getElem_map] at hx
    rw [hx] at hr
    simp only [Option.getD_some]
    rw [Array.getElem_map]
    rw [Array.getElem_toList] at hr
    exact hr.ptr_inv

end
end Go.Abs
namespace Go.Abs
open Go

section
variable {P : Program} {o : Oper} {σ : St} {ρ : Nat → Option Nat} {ok : Nat → Prop} {a : Act} {w : World}

theorem RA.vec_inv {b sz off len : Nat} {v : Value} (h : RA w ok ρ (.one (.vec b sz off len)) v) :
    ∃ c cap n, ρ b = some c ∧ v = .slice (some ⟨c, off, none⟩) len cap ∧ len ≤ cap ∧ shaped w c n ∧ off + cap * sz ≤ n := by
  cases h with | one h => cases h with | vec h1 h2 h3 h4 => exact ⟨_, _, _, h1, rfl, h2, h3, h4⟩

theorem iptr_inv {cs : List T} {v : Value} (h : RA w ok ρ (.iptr cs) v) : ∃ blk off, ∃ u : Nat → Value, v = .pointer (some ⟨blk, off, none⟩) ∧ ok blk ∧
    (∀ j, j < cs.length → w.cell? ⟨blk, off + j, none⟩ = some (u j)) ∧ (∀ j (h : j < cs.length), RT w ok cs[j] (u j)) := by
  cases h with | iptr h1 h2 h3 => exact ⟨_, _, _, rfl, h1, h2, h3⟩

theorem addr_shift {x : AV} {v : Value} (h : RA w ok ρ x v) (hx : isAddr x = true) (k : Nat) : ∃ c off, v = .pointer (some ⟨c, off, none⟩) ∧ RA w ok ρ (shiftA x k) (.pointer (some ⟨c, off + k, none⟩)) := by
  unfold isAddr at hx
  split at hx
  · obtain ⟨c, h1, rfl⟩ := h.ptr_inv
    exact ⟨c, _, rfl, .one (.ptr h1)⟩
  · obtain ⟨blk, off, u, rfl, h1, h2, h3⟩ := iptr_inv h
    refine ⟨blk, off, rfl, .iptr (u := fun j => u (k + j)) h1 (fun j hj => ?_) (fun j hj => ?_)⟩
    · simp at hj; have := h2 (k + j) (by omega); rwa [Nat.add_assoc]
    · simp at hj; simpa using h3 (k + j) (by omega)
  · cases hx

theorem optNat_spec {d n : Nat} {x : Option Operand} (h : SR ρ ok σ a w) (hn : optNat d (x.map (ev σ.s)) = some n) : (x = none ∧ n = d) ∨ ∃ y k, x = some y ∧ a.eval y = .int k n := by
  cases x with
  | none => simp [optNat] at hn; exact .inl ⟨rfl, hn.symm⟩
  | some y =>
    refine .inr ⟨y, ?_⟩
    simp only [Option.map_some, optNat] at hn
    split at hn
    · rename_i k m hm
      split at hn
      · cases hn
        have := (RA_ev h y).intOf hm
        refine ⟨k, rfl, ?_⟩
        rw [this, Int.toNat_of_nonneg ‹_›]
      · cases hn
    · cases hn

theorem sliceBounds_run {n c l hh : Nat} {lo hi : Option Operand} (h : SR ρ ok σ a w) (hl : optNat 0 (lo.map (ev σ.s)) = some l) (hhi : optNat n (hi.map (ev σ.s)) = some hh) (h1 : l ≤ hh) (h2 : hh ≤ n) (h3 : n ≤ c) :
    (Instr.sliceBounds true n c (lo.map a.eval) (hi.map a.eval) none).run P w = .ok (l, hh, c) w := by
  unfold Instr.sliceBounds
  rcases optNat_spec h hl with ⟨rfl, rfl⟩ | ⟨y, k, rfl, hy⟩ <;> rcases optNat_spec h hhi with ⟨rfl, rfl⟩ | ⟨y', k', rfl, hy'⟩ <;>
    simp [Sem.run_pure, Instr.sliceBound, asIntOf, show hh ≤ c from by omega, *]

theorem op_slice (h : SR ρ ok σ a w) {t : TypeId} {x : Operand} {lo hi : Option Operand} (ho : o.op = .slice t x lo hi none) (h1 : tok P t = true) (h2 : isSliceD (tdesc P t) = true) (h3 : tok P (telem P t) = true)
    (h4 : sliceOk (tsize P (telem P t)) (ev σ.s x)) {n l hh : Nat} (hn : (ev σ.s x).lenOf = some n) (hl : optNat 0 (lo.map (ev σ.s)) = some l) (hhi : optNat n (hi.map (ev σ.s)) = some hh) (h5 : l ≤ hh) (h6 : hh ≤ n)
    (h7 : match ev σ.s x with | .one (.vec _ _ _ _) => l = 0 ∨ l < hh | _ => True) :
    OpRes P o σ (sliceV (tsize P (telem P t)) (ev σ.s x) l hh) σ.H ρ ok a w := by
  have hax := RA_ev h x
  suffices hs : ∃ A c, a.eval x = .slice A n c ∧ n ≤ c ∧ RA w ok ρ (sliceV (tsize P (telem P t)) (ev σ.s x) l hh) (.slice (if c = l then A else A.map (·.add (l * tsize P (telem P t)))) (hh - l) (c - l)) by
    obtain ⟨A, c, e1, e2, e3⟩ := hs
    refine .value h ?_ e3
    simp only [execOp, ho, e1]
    refine v_run ?_
    unfold Instr.sliceAt
    rw [Sem.run_bind, run_underlying h1, slice_of h2]
    simp only [Result.andThen]
    unfold Instr.slice
    rw [Sem.run_bind, run_underlying h1, slice_of h2]
    simp only [Result.andThen, Option.map_none]
    rw [Sem.run_bind, sliceBounds_run h hl hhi h5 h6 e2]
    simp only [Result.andThen]
    rw [Sem.run_bind, run_sizeOf h3]
    rfl
  generalize a.eval x = vx at *
  generalize ev σ.s x = ax at *
  unfold AV.lenOf at hn
  split at hn
  · rename_i nl xs
    cases hn
    obtain ⟨A, c, sz, blk, off, u, rfl, g2, g0, g3, g4, g5, g6, g7, g8⟩ := hax.seq_inv2
    refine ⟨A, c, rfl, g2, ?_⟩
    have hlen : ((xs.take hh).drop l).length = hh - l := by simp; omega
    refine .one (.t (.seq (sz := sz) (blk := blk) (off := off + l * sz) (u := fun i j => u (l + i) j) hlen.symm (by omega) (fun e => by
      have hA : A = none := by
        split at e
        · exact e
        · simpa using e
      have := g0 hA; omega) (fun e => by rw [g3 e]; split <;> rfl) (fun e => ?_) (fun y hy => g5 y (List.mem_of_mem_take (List.mem_of_mem_drop hy))) (fun hne => ?_) (fun i hi j hj => ?_) (fun i hi j hj => ?_)))
    · split
      · exact g4 e
      · intro e2; simp at e2; exact g4 e e2
    · have hpos : 0 < hh - l := by rw [← hlen]; exact List.length_pos_iff.2 hne
      have hxs : xs ≠ [] := by intro e; subst e; simp at hlen; omega
      obtain ⟨k1, k2⟩ := g6 hxs
      refine ⟨?_, k2⟩
      have hszz : sz = tsize P (telem P t) := by
        cases xs with
        | nil => exact absurd rfl hxs
        | cons y ys => rw [← g5 y (by simp), ← h4 y (by simp)]
      rw [if_neg (by omega), k1, ← hszz]
      simp [add_none]
    · rw [hlen] at hi
      have hi2 : l + i < xs.length := by omega
      have e : ((xs.take hh).drop l)[i]'(by rw [hlen]; exact hi) = xs[l + i] := by simp
      rw [e] at hj
      have := g7 (l + i) hi2 j hj
      rw [show off + l * sz + (i * sz + j) = off + ((l + i) * sz + j) by rw [Nat.add_mul]; omega]
      exact this
    · rw [hlen] at hi
      have hi2 : l + i < xs.length := by omega
      have e : ((xs.take hh).drop l)[i]'(by rw [hlen]; exact hi) = xs[l + i] := by simp
      have hj2 : j < xs[l + i].length := by rw [← e]; exact hj
      have := g8 (l + i) hi2 j hj2
      simpa [e] using this
  · rename_i b s off m
    cases hn
    obtain ⟨c, cap, n0, k1, rfl, k2, k3, k4⟩ := hax.vec_inv
    refine ⟨some ⟨c, off, none⟩, cap, rfl, k2, ?_⟩
    have hs : s = tsize P (telem P t) := h4
    subst hs
    have e : (if cap = l then some (⟨c, off, none⟩ : Addr) else (some (⟨c, off, none⟩ : Addr)).map (·.add (l * tsize P (telem P t)))) = some ⟨c, off + l * tsize P (telem P t), none⟩ := by
      split
      · rename_i e
        have hl0 : l = 0 := by rcases h7 with h7 | h7; · exact h7
                               · omega
        subst hl0; simp
      · simp [add_none]
    rw [e]
    refine .one (.vec k1 (by omega) k3 ?_)
    have : (cap - l) * tsize P (telem P t) + l * tsize P (telem P t) ≤ cap * tsize P (telem P t) := by
      rw [← Nat.add_mul]; exact Nat.mul_le_mul_right _ (by omega)
    omega
  · exact h4.elim
  · cases hn

theorem op_sliceStr (h : SR ρ ok σ a w) {t : TypeId} {x : Operand} {lo hi : Option Operand} (ho : o.op = .slice t x lo hi none) (h1 : tok P t = true) (h2 : tdesc P t = .string) {s : ByteArray} (hx : ev σ.s x = .one (.t (.lit (.string s))))
    {l hh : Nat} (hl : optNat 0 (lo.map (ev σ.s)) = some l) (hhi : optNat s.size (hi.map (ev σ.s)) = some hh) (h5 : l ≤ hh) (h6 : hh ≤ s.size) :
    OpRes P o σ (sliceV (tsize P (telem P t)) (ev σ.s x) l hh) σ.H ρ ok a w := by
  have hax := RA_ev h x
  rw [hx] at hax ⊢
  have e1 : a.eval x = .string s := by generalize a.eval x = q at hax; cases hax with | one hax => cases hax with | t hax => cases hax with | lit _ => rfl
  refine .value (v := .string (s.extract l hh)) h ?_ (.one (.t (.lit rfl)))
  simp only [execOp, ho, e1]
  refine v_run ?_
  unfold Instr.sliceAt
  rw [Sem.run_bind, run_underlying h1, h2]
  simp only [Result.andThen]
  unfold Instr.slice
  rw [Sem.run_bind, run_underlying h1, h2]
  simp only [Result.andThen, Option.map_none, Option.isSome_none, Bool.false_eq_true, if_false]
  have hb : (Instr.sliceBounds false s.size s.size (lo.map a.eval) (hi.map a.eval) none).run P w = .ok (l, hh, s.size) w := by
    unfold Instr.sliceBounds
    rcases optNat_spec h hl with ⟨rfl, rfl⟩ | ⟨y, k, rfl, hy⟩ <;> rcases optNat_spec h hhi with ⟨rfl, rfl⟩ | ⟨y', k', rfl, hy'⟩ <;>
      simp [Sem.run_pure, Instr.sliceBound, asIntOf, *]
  rw [Sem.run_bind, hb]
  rfl

theorem fields_of {t : TypeId} (h : isStructD (tdesc P t) = true) {f : Nat} (hf : f < nfields P t) : ∃ fs fd, tdesc P t = .struct fs ∧ fs[f]? = some fd ∧ foff P t f = fd.offset ∧ fty P t f = fd.type := by
  cases hd : tdesc P t <;> simp [isStructD, hd] at h
  rename_i fs
  simp only [nfields, fieldsD, hd] at hf
  have hf' : f < fs.size := by simpa using hf
  refine ⟨fs, fs[f], rfl, by simp [hf'], ?_, ?_⟩
  · simp [foff, fieldsD, hd, hf']
  · simp [fty, fieldsD, hd, hf']

theorem op_fieldAddr (h : SR ρ ok σ a w) {t : TypeId} {x : Operand} {f : Nat} (ho : o.op = .fieldAddr t x f) (h1 : tok P t = true) (h2 : isStructD (tdesc P t) = true) (h3 : f < nfields P t) (h4 : tok P (fty P t f) = true)
    (h5 : 0 < tsize P (fty P t f)) (h6 : isAddr (ev σ.s x) = true) : OpRes P o σ (shiftA (ev σ.s x) (foff P t f)) σ.H ρ ok a w := by
  obtain ⟨fs, fd, d1, d2, d3, d4⟩ := fields_of h2 h3
  obtain ⟨c, off, e1, e2⟩ := addr_shift (RA_ev h x) h6 (foff P t f)
  refine .value h ?_ e2
  simp only [execOp, ho, e1]
  refine v_run ?_
  unfold Instr.fieldAt
  rw [Sem.run_bind, run_underlying h1, d1]
  simp only [Result.andThen, d2]
  rw [Sem.run_bind]
  simp only [Instr.sureAddr, Sem.run_pure, Result.andThen]
  rw [Sem.run_bind]
  unfold fieldPlace
  rw [d4] at h4 h5
  rw [Sem.run_bind, run_sizeOf h4]
  simp only [Result.andThen]
  rw [if_neg (by omega)]
  simp [add_none, d3]

theorem part_run {t : TypeId} (h1 : tok P t = true) {cs : List C} {vs : Array Value} (hs : vs.size = cs.length) (hr : ∀ j (h : j < cs.length) (h' : j < vs.size), RC w ok ρ cs[j] vs[j]) {off : Nat} (h2 : (if tagg P t then off + tsize P t else off + 1) ≤ cs.length) :
    ∃ v, (part t vs off).run P w = .ok v w ∧ RA w ok ρ (if tagg P t then .agg ((cs.drop off).take (tsize P t)) else .one ((cs.drop off).headD default)) v := by
  unfold part
  rw [Sem.run_bind, run_isAgg h1]
  simp only [Result.andThen]
  cases hg : tagg P t with
  | true =>
    simp only [hg, if_true] at h2 ⊢
    refine ⟨_, by rw [Sem.run_bind, run_sizeOf h1]; rfl, .agg (by simp; omega) fun j hj hj' => ?_⟩
    simp at hj hj'
    simpa using hr (off + j) (by omega) (by omega)
  | false =>
    simp only [hg, Bool.false_eq_true, if_false] at h2 ⊢
    have hv : vs[off]? = some (vs[off]'(by omega)) := by simp
    refine ⟨vs[off]'(by omega), by simp [hv], .one ?_⟩
    have e : (cs.drop off).headD default = cs[off] := by
      rw [List.headD_eq_head?_getD, List.head?_drop, List.getElem?_eq_getElem (by omega)]; rfl
    rw [e]
    exact hr off (by omega) (by omega)

theorem op_field (h : SR ρ ok σ a w) {t : TypeId} {x : Operand} {f : Nat} (ho : o.op = .field t x f) (h1 : tok P t = true) (h2 : isStructD (tdesc P t) = true) (h3 : f < nfields P t) (h4 : tok P (fty P t f) = true)
    {cs : List C} (hx : ev σ.s x = .agg cs) (h5 : (if tagg P (fty P t f) then foff P t f + tsize P (fty P t f) else foff P t f + 1) ≤ cs.length) :
    OpRes P o σ (if tagg P (fty P t f) then .agg ((cs.drop (foff P t f)).take (tsize P (fty P t f))) else .one ((cs.drop (foff P t f)).headD default)) σ.H ρ ok a w := by
  obtain ⟨fs, fd, d1, d2, d3, d4⟩ := fields_of h2 h3
  have hax := RA_ev h x
  rw [hx] at hax
  generalize hex : a.eval x = vx at hax
  cases hax with
  | agg g1 g2 =>
    obtain ⟨v, r1, r2⟩ := part_run (P := P) h4 g1 g2 h5
    refine .value h ?_ r2
    simp only [execOp, ho, hex]
    refine v_run ?_
    unfold Instr.field
    rw [Sem.run_bind, run_underlying h1, d1]
    simp only [Result.andThen, d2, asAgg]
    rw [Sem.run_bind]
    simp only [Sem.run_pure, Result.andThen]
    rw [← d4, ← d3]
    exact r1

theorem inRange_spec {x : AV} {v : Value} (hx : RA w ok ρ x v) {n : Nat} (h : inRange x n) : ∃ k, v = .int k (idx x : Nat) ∧ idx x < n := by
  unfold inRange at h
  split at h
  · rename_i k i hi
    refine ⟨k, ?_, by simp [idx, hi]; omega⟩
    rw [hx.intOf hi]
    simp only [idx, hi]
    rw [Int.toNat_of_nonneg h.1]
  · exact h.elim

theorem op_indexAddr (h : SR ρ ok σ a w) {t : TypeId} {x y : Operand} (ho : o.op = .indexAddr t x y) (h1 : tok P t = true) (h2 : isSliceD (tdesc P t) = true) (h3 : tok P (telem P t) = true)
    (h4 : elemOk (tsize P (telem P t)) (ev σ.s x) (idx (ev σ.s y))) {n : Nat} (hn : (ev σ.s x).lenOf = some n) (h5 : inRange (ev σ.s y) n) :
    OpRes P o σ (elemA (tsize P (telem P t)) (ev σ.s x) (idx (ev σ.s y))) σ.H ρ ok a w := by
  obtain ⟨k, hy, hlt⟩ := inRange_spec (RA_ev h y) h5
  have hax := RA_ev h x
  generalize hi : idx (ev σ.s y) = i at *
  suffices hs : ∃ c off cap, a.eval x = .slice (some ⟨c, off, none⟩) n cap ∧ RA w ok ρ (elemA (tsize P (telem P t)) (ev σ.s x) i) (.pointer (some ⟨c, off + i * tsize P (telem P t), none⟩)) by
    obtain ⟨c, off, cap, e1, e2⟩ := hs
    refine .value h ?_ e2
    simp only [execOp, ho, e1, hy]
    refine v_run ?_
    unfold Instr.indexAt
    simp only [asIntOf, Sem.run_bind, Sem.run_pure, Result.andThen, run_underlying h1, slice_of h2]
    rw [if_pos (by omega)]
    rw [Sem.run_bind, run_sizeOf h3]
    simp [Result.andThen, add_none]
  generalize a.eval x = vx at *
  generalize ev σ.s x = ax at *
  unfold AV.lenOf at hn
  split at hn
  · rename_i nl xs
    cases hn
    obtain ⟨A, c, sz, blk, off, u, rfl, g2, g0, g3, g4, g5, g6, g7, g8⟩ := hax.seq_inv2
    have hxs : xs ≠ [] := by intro e; subst e; simp at hlt
    obtain ⟨k1, k2⟩ := g6 hxs
    have hszz : sz = tsize P (telem P t) := by
      cases xs with
      | nil => exact absurd rfl hxs
      | cons y ys => rw [← g5 y (by simp), ← h4 y (by simp)]
    subst hszz
    subst k1
    refine ⟨blk, off, c, rfl, ?_⟩
    have e : xs.getD i [] = xs[i] := by simp [hlt]
    simp only [elemA, e]
    refine .iptr (u := u i) k2 (fun j hj => ?_) (fun j hj => g8 i hlt j hj)
    rw [Nat.add_assoc]; exact g7 i hlt j hj
  · rename_i b s off m
    cases hn
    obtain ⟨c, cap, n0, k1, rfl, k2, k3, k4⟩ := hax.vec_inv
    have hs : s = tsize P (telem P t) := h4
    subst hs
    exact ⟨c, off, cap, rfl, .one (.ptr k1)⟩
  · exact h4.elim
  · cases hn

theorem arr_of {t : TypeId} (h : isArrayD (tdesc P t) = true) : tdesc P t = .array (arrLen (tdesc P t)) (telem P t) := by
  cases hd : tdesc P t <;> simp [isArrayD, hd] at h
  simp [telem, hd, arrLen]

theorem op_indexArr (h : SR ρ ok σ a w) {t : TypeId} {x y : Operand} (ho : o.op = .indexAddr t x y) (h1 : tok P t = true) (h2 : isArrayD (tdesc P t) = true) (h3 : tok P (telem P t) = true)
    (h4 : isAddr (ev σ.s x) = true) (h5 : inRange (ev σ.s y) (arrLen (tdesc P t))) :
    OpRes P o σ (shiftA (ev σ.s x) (idx (ev σ.s y) * tsize P (telem P t))) σ.H ρ ok a w := by
  obtain ⟨k, hy, hlt⟩ := inRange_spec (RA_ev h y) h5
  obtain ⟨c, off, e1, e2⟩ := addr_shift (RA_ev h x) h4 (idx (ev σ.s y) * tsize P (telem P t))
  refine .value h ?_ e2
  simp only [execOp, ho, e1, hy]
  refine v_run ?_
  unfold Instr.indexAt
  have hd := arr_of h2
  simp only [asIntOf, Sem.run_bind, Sem.run_pure, Result.andThen, run_underlying h1]
  rw [hd]
  simp only [Instr.sureAddr, Sem.run_bind, Sem.run_pure, Result.andThen, run_underlying h1]
  rw [if_pos (by omega)]
  rw [Sem.run_bind, run_sizeOf h3]
  simp [Result.andThen, add_none]

theorem op_index (h : SR ρ ok σ a w) {t : TypeId} {x y : Operand} (ho : o.op = .index t x y) (h1 : tok P t = true) (h2 : isArrayD (tdesc P t) = true) (h3 : tok P (telem P t) = true)
    (h4 : inRange (ev σ.s y) (arrLen (tdesc P t))) {cs : List C} (hx : ev σ.s x = .agg cs)
    (h5 : idx (ev σ.s y) * tsize P (telem P t) + (if tagg P (telem P t) then tsize P (telem P t) else 1) ≤ cs.length) :
    OpRes P o σ (if tagg P (telem P t) then .agg ((cs.drop (idx (ev σ.s y) * tsize P (telem P t))).take (tsize P (telem P t))) else .one ((cs.drop (idx (ev σ.s y) * tsize P (telem P t))).headD default)) σ.H ρ ok a w := by
  obtain ⟨k, hy, hlt⟩ := inRange_spec (RA_ev h y) h4
  have hax := RA_ev h x
  rw [hx] at hax
  generalize hex : a.eval x = vx at hax
  cases hax with
  | agg g1 g2 =>
    obtain ⟨v, r1, r2⟩ := part_run (P := P) h3 g1 g2 (off := idx (ev σ.s y) * tsize P (telem P t)) (by split at h5 <;> simp_all)
    refine .value h ?_ r2
    simp only [execOp, ho, hex, hy]
    refine v_run ?_
    unfold Instr.index
    have hd := arr_of h2
    simp only [asIntOf, Sem.run_bind, Sem.run_pure, Result.andThen, run_underlying h1]
    rw [hd]
    simp only []
    rw [if_pos (by omega)]
    rw [Sem.run_bind, run_sizeOf h3]
    simp only [Result.andThen, Int.toNat_natCast]
    exact r1

theorem op_indexStr (h : SR ρ ok σ a w) {t : TypeId} {x y : Operand} (ho : o.op = .index t x y) (h1 : tok P t = true) (h2 : tdesc P t = .string) {s : ByteArray} (hx : ev σ.s x = .one (.t (.lit (.string s)))) (h4 : inRange (ev σ.s y) s.size) :
    OpRes P o σ (litI .u8 (s[idx (ev σ.s y)]!).toNat) σ.H ρ ok a w := by
  obtain ⟨k, hy, hlt⟩ := inRange_spec (RA_ev h y) h4
  have hax := RA_ev h x
  rw [hx] at hax
  generalize hex : a.eval x = vx at hax
  cases hax with | one hax => cases hax with | t hax => cases hax with | lit _ =>
  refine .value h (v := .int .u8 (s[idx (ev σ.s y)]!).toNat) ?_ (.one (.t (.lit rfl)))
  simp only [execOp, ho, hex, hy]
  refine v_run ?_
  unfold Instr.index
  simp only [asIntOf, Sem.run_bind, Sem.run_pure, Result.andThen, run_underlying h1, h2]
  rw [if_pos (by omega)]
  have e : s[idx (ev σ.s y)]? = some (s[idx (ev σ.s y)]'hlt) := by
    exact getElem?_pos s _ hlt
  have e2 : s[idx (ev σ.s y)]! = s[idx (ev σ.s y)]'hlt := getElem!_pos s _ hlt
  simp only [Int.toNat_natCast, e, e2]
  rfl

end
end Go.Abs
