/-
  No cell of these rows narrows 'for every input' (looked for: loops, veiled, ifaces, maps, wideKeys, modest, calm, conditions, laid).
  DERIVED. THE GIVEN ROWS OF THIS SEAT. 7 by the template 'for every input the law returns true; each argument reads behind the call as it read before'; 0 by the template 'total and deterministic' (their statements: YtjmbhknhiakkpaaTotals.lean).
  GIVEN WITH THE SEED: the statements are not yours to turn. If you find one false, say at which input.
  Laid BY PROGRAM, IN A SANDBOX (cutbox-rows.mjs): the forced cells as the released guide's own fill.sh prints them over the translation bcb3b5b140d29b4a… (all of the seat's roots in one cut). By AI agents, Wed Nov 11 2026. No macro, syntax, notation, axiom, sorry.
-/
import Derived.Test.YtjmbhknhiakkpaaChecked
import GoSem.Claim
import GoSem.ClaimJoined
import GoSem.ClaimMapViews
import Derived.JoinedTies
import Derived.KernelRfl
namespace Go.Proofs.Ytjmbhknhiakkpaa
/- THE CELL 'sum', in the pinned program and in every row, IS THE sha256 OF THE DUMP (.gsa) THAT YtjmbhknhiakkpaaProg.lean LOADS. Nothing in Lean hashes anything: it is a label: what it is worth is what the hold of that sum in a sandbox is worth. -/
noncomputable def Try.pinned : Pinned := { name := "ytjmbhknhiakkpaa", sum := "bcb3b5b140d29b4a8d0919c2976adff303d8e3e640c5b5bb32f954bcabc675db", checked := Try.checked }
namespace Rows
def none {H : Type} : Left H := { results := [], args := [] }

/-- 'mullionlaw20.HermiteForms': WHATEVER THE INPUT: true; the input reads as it did. -/
def hermiteFormsSpec : ChangeSpec := { name := "hermiteForms", fn := fun _ => fun
  | [d1, d2] => { results := [.lit (.bool true)], args := [d1, d2] }
  | _ => none }
def hermiteFormsRow : OpenClaim := { program := "ytjmbhknhiakkpaa", sum := "bcb3b5b140d29b4a8d0919c2976adff303d8e3e640c5b5bb32f954bcabc675db", func := "mullion/mullionlaw20.HermiteForms", spec := "hermiteForms", unfollowed := true, recurses := true, apart := false }
def HermiteFormsSaid : Prop := hermiteFormsRow.holds Try.pinned (OpenSpec.ofChange hermiteFormsSpec)

/-- ITS FALSE NEIGHBOUR: 'it returns false'. Refute it at one input. -/
def hermiteFormsWrong : ChangeSpec := { name := "hermiteForms", fn := fun _ => fun
  | [d1, d2] => { results := [.lit (.bool false)], args := [d1, d2] }
  | _ => none }
def HermiteFormsWrongFalsely : Prop := hermiteFormsRow.holds Try.pinned (OpenSpec.ofChange hermiteFormsWrong)

/-- 'mullionlaw20.HermiteOne': WHATEVER THE INPUT: true; the input reads as it did. -/
def hermiteOneSpec : ChangeSpec := { name := "hermiteOne", fn := fun _ => fun
  | [d1, d2, d3, d4, d5] => { results := [.lit (.bool true)], args := [d1, d2, d3, d4, d5] }
  | _ => none }
def hermiteOneRow : OpenClaim := { program := "ytjmbhknhiakkpaa", sum := "bcb3b5b140d29b4a8d0919c2976adff303d8e3e640c5b5bb32f954bcabc675db", func := "mullion/mullionlaw20.HermiteOne", spec := "hermiteOne", unfollowed := true, recurses := true, apart := false }
def HermiteOneSaid : Prop := hermiteOneRow.holds Try.pinned (OpenSpec.ofChange hermiteOneSpec)

/-- ITS FALSE NEIGHBOUR: 'it returns false'. Refute it at one input. -/
def hermiteOneWrong : ChangeSpec := { name := "hermiteOne", fn := fun _ => fun
  | [d1, d2, d3, d4, d5] => { results := [.lit (.bool false)], args := [d1, d2, d3, d4, d5] }
  | _ => none }
def HermiteOneWrongFalsely : Prop := hermiteOneRow.holds Try.pinned (OpenSpec.ofChange hermiteOneWrong)

/-- 'mullionlaw20.HermiteMul': WHATEVER THE INPUT: true; the input reads as it did. -/
def hermiteMulSpec : ChangeSpec := { name := "hermiteMul", fn := fun _ => fun
  | [d1, d2] => { results := [.lit (.bool true)], args := [d1, d2] }
  | _ => none }
def hermiteMulRow : OpenClaim := { program := "ytjmbhknhiakkpaa", sum := "bcb3b5b140d29b4a8d0919c2976adff303d8e3e640c5b5bb32f954bcabc675db", func := "mullion/mullionlaw20.HermiteMul", spec := "hermiteMul", unfollowed := true, recurses := true, apart := false }
def HermiteMulSaid : Prop := hermiteMulRow.holds Try.pinned (OpenSpec.ofChange hermiteMulSpec)

/-- ITS FALSE NEIGHBOUR: 'it returns false'. Refute it at one input. -/
def hermiteMulWrong : ChangeSpec := { name := "hermiteMul", fn := fun _ => fun
  | [d1, d2] => { results := [.lit (.bool false)], args := [d1, d2] }
  | _ => none }
def HermiteMulWrongFalsely : Prop := hermiteMulRow.holds Try.pinned (OpenSpec.ofChange hermiteMulWrong)

/-- 'mullionlaw20.HermitePoints': WHATEVER THE INPUT: true; the input reads as it did. -/
def hermitePointsSpec : ChangeSpec := { name := "hermitePoints", fn := fun _ => fun
  | [d1, d2] => { results := [.lit (.bool true)], args := [d1, d2] }
  | _ => none }
def hermitePointsRow : OpenClaim := { program := "ytjmbhknhiakkpaa", sum := "bcb3b5b140d29b4a8d0919c2976adff303d8e3e640c5b5bb32f954bcabc675db", func := "mullion/mullionlaw20.HermitePoints", spec := "hermitePoints", unfollowed := true, recurses := true, apart := false }
def HermitePointsSaid : Prop := hermitePointsRow.holds Try.pinned (OpenSpec.ofChange hermitePointsSpec)

/-- ITS FALSE NEIGHBOUR: 'it returns false'. Refute it at one input. -/
def hermitePointsWrong : ChangeSpec := { name := "hermitePoints", fn := fun _ => fun
  | [d1, d2] => { results := [.lit (.bool false)], args := [d1, d2] }
  | _ => none }
def HermitePointsWrongFalsely : Prop := hermitePointsRow.holds Try.pinned (OpenSpec.ofChange hermitePointsWrong)

/-- 'mullionlaw20.HermiteRow': WHATEVER THE INPUT: true; the input reads as it did. -/
def hermiteRowSpec : ChangeSpec := { name := "hermiteRow", fn := fun _ => fun
  | [d] => { results := [.lit (.bool true)], args := [d] }
  | _ => none }
def hermiteRowRow : OpenClaim := { program := "ytjmbhknhiakkpaa", sum := "bcb3b5b140d29b4a8d0919c2976adff303d8e3e640c5b5bb32f954bcabc675db", func := "mullion/mullionlaw20.HermiteRow", spec := "hermiteRow", unfollowed := true, recurses := true, apart := false }
def HermiteRowSaid : Prop := hermiteRowRow.holds Try.pinned (OpenSpec.ofChange hermiteRowSpec)

/-- ITS FALSE NEIGHBOUR: 'it returns false'. Refute it at one input. -/
def hermiteRowWrong : ChangeSpec := { name := "hermiteRow", fn := fun _ => fun
  | [d] => { results := [.lit (.bool false)], args := [d] }
  | _ => none }
def HermiteRowWrongFalsely : Prop := hermiteRowRow.holds Try.pinned (OpenSpec.ofChange hermiteRowWrong)

/-- 'mullionlaw20.HermiteTwo': WHATEVER THE INPUT: true; the input reads as it did. -/
def hermiteTwoSpec : ChangeSpec := { name := "hermiteTwo", fn := fun _ => fun
  | [d1, d2, d3] => { results := [.lit (.bool true)], args := [d1, d2, d3] }
  | _ => none }
def hermiteTwoRow : OpenClaim := { program := "ytjmbhknhiakkpaa", sum := "bcb3b5b140d29b4a8d0919c2976adff303d8e3e640c5b5bb32f954bcabc675db", func := "mullion/mullionlaw20.HermiteTwo", spec := "hermiteTwo", unfollowed := true, recurses := true, apart := false }
def HermiteTwoSaid : Prop := hermiteTwoRow.holds Try.pinned (OpenSpec.ofChange hermiteTwoSpec)

/-- ITS FALSE NEIGHBOUR: 'it returns false'. Refute it at one input. -/
def hermiteTwoWrong : ChangeSpec := { name := "hermiteTwo", fn := fun _ => fun
  | [d1, d2, d3] => { results := [.lit (.bool false)], args := [d1, d2, d3] }
  | _ => none }
def HermiteTwoWrongFalsely : Prop := hermiteTwoRow.holds Try.pinned (OpenSpec.ofChange hermiteTwoWrong)

/-- 'mullionlaw20.HermiteTriangle': WHATEVER THE INPUT: true; the input reads as it did. -/
def hermiteTriangleSpec : ChangeSpec := { name := "hermiteTriangle", fn := fun _ => fun
  | [d1, d2] => { results := [.lit (.bool true)], args := [d1, d2] }
  | _ => none }
def hermiteTriangleRow : OpenClaim := { program := "ytjmbhknhiakkpaa", sum := "bcb3b5b140d29b4a8d0919c2976adff303d8e3e640c5b5bb32f954bcabc675db", func := "mullion/mullionlaw20.HermiteTriangle", spec := "hermiteTriangle", unfollowed := true, recurses := true, apart := false }
def HermiteTriangleSaid : Prop := hermiteTriangleRow.holds Try.pinned (OpenSpec.ofChange hermiteTriangleSpec)

/-- ITS FALSE NEIGHBOUR: 'it returns false'. Refute it at one input. -/
def hermiteTriangleWrong : ChangeSpec := { name := "hermiteTriangle", fn := fun _ => fun
  | [d1, d2] => { results := [.lit (.bool false)], args := [d1, d2] }
  | _ => none }
def HermiteTriangleWrongFalsely : Prop := hermiteTriangleRow.holds Try.pinned (OpenSpec.ofChange hermiteTriangleWrong)

/- THE SECOND FORM. 'bulk': how many values and letters a reading holds, each counted each time it is reached (what is shared counts as often as it is met; a slice's spare places count too). A statement '..UptoSaid' is the law's where the arguments, and the package variables that the reading takes, are together of bulk at most 1048576: NARROWER than '..Said'. Prove '..Said' where nothing that the law and all that it calls make is longer than what came in: it says more and counts as full. Else prove '..UptoSaid'. A law counts once. -/
mutual
def uptoBulk {H : Type} : DataW H → Nat
  | .lit (.string bytes) => bytes.length + 1
  | .lit _ => 1
  | .nil => 1
  | .ptr d => uptoBulk d + 1
  | .slice elems spare => uptoBulkAll elems + uptoBulkAll spare + 1
  | .agg parts => uptoBulkAll parts + 1
  | .iface _ d => uptoBulk d + 1
  | .map entries => uptoBulkEntries entries + 1
  | .held _ => 1
def uptoBulkAll {H : Type} : List (DataW H) → Nat
  | [] => 0
  | d :: r => uptoBulk d + uptoBulkAll r
def uptoBulkEntries {H : Type} : List (Lit × DataW H) → Nat
  | [] => 0
  | x :: r => uptoBulkEntry x + uptoBulkEntries r
def uptoBulkEntry {H : Type} : Lit × DataW H → Nat
  | (.string bytes, d) => bytes.length + uptoBulk d + 1
  | (_, d) => uptoBulk d + 1
 end
def uptoSmall : (H : Type) → List (DataW H) → Bool := fun _ ds => decide (uptoBulkAll ds ≤ 1048576)
def OpenSpec.upto (s : _root_.Go.ChangeSpec) : _root_.Go.OpenSpec := { _root_.Go.OpenSpec.ofChange s with cond := some uptoSmall }

/-- 'mullionlaw20.HermiteForms', WHERE WHAT IT READS IS OF BULK AT MOST 1048576: true; the input reads as it did. -/
def hermiteFormsUptoRow : OpenClaim := { program := "ytjmbhknhiakkpaa", sum := "bcb3b5b140d29b4a8d0919c2976adff303d8e3e640c5b5bb32f954bcabc675db", func := "mullion/mullionlaw20.HermiteForms", spec := "hermiteForms", unfollowed := true, recurses := true, apart := false, narrowed := true }
def HermiteFormsUptoSaid : Prop := hermiteFormsUptoRow.holds Try.pinned (OpenSpec.upto hermiteFormsSpec)

/-- 'mullionlaw20.HermiteOne', WHERE WHAT IT READS IS OF BULK AT MOST 1048576: true; the input reads as it did. -/
def hermiteOneUptoRow : OpenClaim := { program := "ytjmbhknhiakkpaa", sum := "bcb3b5b140d29b4a8d0919c2976adff303d8e3e640c5b5bb32f954bcabc675db", func := "mullion/mullionlaw20.HermiteOne", spec := "hermiteOne", unfollowed := true, recurses := true, apart := false, narrowed := true }
def HermiteOneUptoSaid : Prop := hermiteOneUptoRow.holds Try.pinned (OpenSpec.upto hermiteOneSpec)

/-- 'mullionlaw20.HermiteMul', WHERE WHAT IT READS IS OF BULK AT MOST 1048576: true; the input reads as it did. -/
def hermiteMulUptoRow : OpenClaim := { program := "ytjmbhknhiakkpaa", sum := "bcb3b5b140d29b4a8d0919c2976adff303d8e3e640c5b5bb32f954bcabc675db", func := "mullion/mullionlaw20.HermiteMul", spec := "hermiteMul", unfollowed := true, recurses := true, apart := false, narrowed := true }
def HermiteMulUptoSaid : Prop := hermiteMulUptoRow.holds Try.pinned (OpenSpec.upto hermiteMulSpec)

/-- 'mullionlaw20.HermitePoints', WHERE WHAT IT READS IS OF BULK AT MOST 1048576: true; the input reads as it did. -/
def hermitePointsUptoRow : OpenClaim := { program := "ytjmbhknhiakkpaa", sum := "bcb3b5b140d29b4a8d0919c2976adff303d8e3e640c5b5bb32f954bcabc675db", func := "mullion/mullionlaw20.HermitePoints", spec := "hermitePoints", unfollowed := true, recurses := true, apart := false, narrowed := true }
def HermitePointsUptoSaid : Prop := hermitePointsUptoRow.holds Try.pinned (OpenSpec.upto hermitePointsSpec)

/-- 'mullionlaw20.HermiteRow', WHERE WHAT IT READS IS OF BULK AT MOST 1048576: true; the input reads as it did. -/
def hermiteRowUptoRow : OpenClaim := { program := "ytjmbhknhiakkpaa", sum := "bcb3b5b140d29b4a8d0919c2976adff303d8e3e640c5b5bb32f954bcabc675db", func := "mullion/mullionlaw20.HermiteRow", spec := "hermiteRow", unfollowed := true, recurses := true, apart := false, narrowed := true }
def HermiteRowUptoSaid : Prop := hermiteRowUptoRow.holds Try.pinned (OpenSpec.upto hermiteRowSpec)

/-- 'mullionlaw20.HermiteTwo', WHERE WHAT IT READS IS OF BULK AT MOST 1048576: true; the input reads as it did. -/
def hermiteTwoUptoRow : OpenClaim := { program := "ytjmbhknhiakkpaa", sum := "bcb3b5b140d29b4a8d0919c2976adff303d8e3e640c5b5bb32f954bcabc675db", func := "mullion/mullionlaw20.HermiteTwo", spec := "hermiteTwo", unfollowed := true, recurses := true, apart := false, narrowed := true }
def HermiteTwoUptoSaid : Prop := hermiteTwoUptoRow.holds Try.pinned (OpenSpec.upto hermiteTwoSpec)

/-- 'mullionlaw20.HermiteTriangle', WHERE WHAT IT READS IS OF BULK AT MOST 1048576: true; the input reads as it did. -/
def hermiteTriangleUptoRow : OpenClaim := { program := "ytjmbhknhiakkpaa", sum := "bcb3b5b140d29b4a8d0919c2976adff303d8e3e640c5b5bb32f954bcabc675db", func := "mullion/mullionlaw20.HermiteTriangle", spec := "hermiteTriangle", unfollowed := true, recurses := true, apart := false, narrowed := true }
def HermiteTriangleUptoSaid : Prop := hermiteTriangleUptoRow.holds Try.pinned (OpenSpec.upto hermiteTriangleSpec)

end Rows
end Go.Proofs.Ytjmbhknhiakkpaa
