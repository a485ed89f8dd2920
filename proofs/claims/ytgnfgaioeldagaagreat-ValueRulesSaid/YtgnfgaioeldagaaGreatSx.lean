/- At every input the call answers true and leaves its arguments as they were; no conditions. -/
import Derived.Test.YtgnfgaioeldagaaGreatProg
import Derived.Orders
set_option linter.unusedSimpArgs false
set_option linter.unusedVariables false
namespace Go.Proofs.YtgnfgaioeldagaaGreat
open Go
def bupto {α : Type} (f : Nat → α) (k : Nat) : List α := (List.range k).map f
/-- What the k-th round is handed. -/
def bfn (xs : List Nat) (k : Nat) : Nat × Nat := (xs.length - 1 - k, xs.getD (xs.length - 1 - k) 0)
/-- What a round keeps: all blocks below N but for block c. -/
structure Keeps3 (N c : Nat) (A B : World) : Prop where
  env : B.os = A.os ∧ B.output = A.output
  size : A.heap.size ≤ B.heap.size
  same : ∀ k, k < N → k ≠ c → B.heap[k]? = A.heap[k]?
/-- The slice value sv holds the limbs xs, in a block below n₀ that is not c₀; or there are none. -/
def Limbs (n₀ c₀ : Nat) (W : World) (sv : Value) (xs : List Nat) : Prop :=
  (xs = [] ∧ ∃ A cap, sv = .slice A 0 cap) ∨ ∃ b off cap, sv = .slice (some ⟨b, off, none⟩) xs.length cap ∧ (b < n₀ ∧ b ≠ c₀) ∧ ∀ j, j < xs.length → W.cell? ⟨b, off + j, none⟩ = some (.int .u32 ((xs.getD j 0 : Nat) : Int))
/-- Code behind so many parts. -/
def dropSeq : Nat → Code → Code
  | 0, c => c
  | n + 1, .seq _ y => dropSeq n y
  | _ + 1, c => c
theorem dropSeq_zero (c : Code) : dropSeq 0 c = c := rfl
theorem dropSeq_succ (n : Nat) (x y : Code) : dropSeq (n + 1) (.seq x y) = dropSeq n y := rfl
noncomputable def smallTail : Code := match Tryz.f81.body with | some c => dropSeq 6 c | none => .skip

/-- What the rounds reckon. -/
def uW : List (Nat × Nat) → Int := List.foldl (fun u p => IntKind.wrap .u64 (IntKind.wrap .u64 (u * 1000000000) + IntKind.wrap .u64 (p.2 : Int))) 0
/-- What is told of the limbs. -/
def tailVal (neg : Bool) (xs : List Nat) : Int := IntKind.wrap .i64 (if neg then IntKind.wrap .u64 (-uW (bupto (bfn xs) xs.length)) else uW (bupto (bfn xs) xs.length))

end Go.Proofs.YtgnfgaioeldagaaGreat
