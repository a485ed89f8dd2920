/-
  No cell of these rows narrows 'for every input' (looked for: loops, veiled, ifaces, maps, wideKeys, modest, calm, conditions, laid).
  DERIVED. THE GIVEN ROWS OF THIS SEAT. 12 by the template 'for every input the law returns true; each argument reads behind the call as it read before'; 0 by the template 'total and deterministic' (their statements: YtohpbppplfdieaaTotals.lean).
  GIVEN WITH THE SEED: the statements are not yours to turn. If you find one false, say at which input.
  Laid BY PROGRAM, IN A SANDBOX (cutbox-rows.mjs): the forced cells as the released guide's own fill.sh prints them over the translation 370a1f7bd2d85e63… (all of the seat's roots in one cut). By AI agents, Wed Nov 11 2026. No macro, syntax, notation, axiom, sorry.
-/
import Derived.Test.YtohpbppplfdieaaChecked
import GoSem.Claim
import GoSem.ClaimJoined
import GoSem.ClaimMapViews
import Derived.JoinedTies
import Derived.KernelRfl
namespace Go.Proofs.Ytohpbppplfdieaa
/- THE CELL 'sum', in the pinned program and in every row, IS THE sha256 OF THE DUMP (.gsa) THAT YtohpbppplfdieaaProg.lean LOADS. Nothing in Lean hashes anything: it is a label: what it is worth is what the hold of that sum in a sandbox is worth. -/
noncomputable def Try.pinned : Pinned := { name := "ytohpbppplfdieaa", sum := "370a1f7bd2d85e6392fd76217886c5e35553bd648111cbd974f664d2595bafba", checked := Try.checked }
namespace Rows
def none {H : Type} : Left H := { results := [], args := [] }

/-- 'mullionlaw4.GcdTells': WHATEVER THE INPUT: true; the input reads as it did. -/
def gcdTellsSpec : ChangeSpec := { name := "gcdTells", fn := fun _ => fun
  | [d1, d2, d3] => { results := [.lit (.bool true)], args := [d1, d2, d3] }
  | _ => none }
def gcdTellsRow : OpenClaim := { program := "ytohpbppplfdieaa", sum := "370a1f7bd2d85e6392fd76217886c5e35553bd648111cbd974f664d2595bafba", func := "mullion/mullionlaw4.GcdTells", spec := "gcdTells", unfollowed := true, recurses := true, apart := false }
def GcdTellsSaid : Prop := gcdTellsRow.holds Try.pinned (OpenSpec.ofChange gcdTellsSpec)

/-- ITS FALSE NEIGHBOUR: 'it returns false'. Refute it at one input. -/
def gcdTellsWrong : ChangeSpec := { name := "gcdTells", fn := fun _ => fun
  | [d1, d2, d3] => { results := [.lit (.bool false)], args := [d1, d2, d3] }
  | _ => none }
def GcdTellsWrongFalsely : Prop := gcdTellsRow.holds Try.pinned (OpenSpec.ofChange gcdTellsWrong)

/-- 'mullionlaw4.GcdExt': WHATEVER THE INPUT: true; the input reads as it did. -/
def gcdExtSpec : ChangeSpec := { name := "gcdExt", fn := fun _ => fun
  | [d1, d2] => { results := [.lit (.bool true)], args := [d1, d2] }
  | _ => none }
def gcdExtRow : OpenClaim := { program := "ytohpbppplfdieaa", sum := "370a1f7bd2d85e6392fd76217886c5e35553bd648111cbd974f664d2595bafba", func := "mullion/mullionlaw4.GcdExt", spec := "gcdExt", unfollowed := true, recurses := true, apart := false }
def GcdExtSaid : Prop := gcdExtRow.holds Try.pinned (OpenSpec.ofChange gcdExtSpec)

/-- ITS FALSE NEIGHBOUR: 'it returns false'. Refute it at one input. -/
def gcdExtWrong : ChangeSpec := { name := "gcdExt", fn := fun _ => fun
  | [d1, d2] => { results := [.lit (.bool false)], args := [d1, d2] }
  | _ => none }
def GcdExtWrongFalsely : Prop := gcdExtRow.holds Try.pinned (OpenSpec.ofChange gcdExtWrong)

/-- 'mullionlaw4.GcdDivides': WHATEVER THE INPUT: true; the input reads as it did. -/
def gcdDividesSpec : ChangeSpec := { name := "gcdDivides", fn := fun _ => fun
  | [d1, d2, d3] => { results := [.lit (.bool true)], args := [d1, d2, d3] }
  | _ => none }
def gcdDividesRow : OpenClaim := { program := "ytohpbppplfdieaa", sum := "370a1f7bd2d85e6392fd76217886c5e35553bd648111cbd974f664d2595bafba", func := "mullion/mullionlaw4.GcdDivides", spec := "gcdDivides", unfollowed := true, recurses := true, apart := false }
def GcdDividesSaid : Prop := gcdDividesRow.holds Try.pinned (OpenSpec.ofChange gcdDividesSpec)

/-- ITS FALSE NEIGHBOUR: 'it returns false'. Refute it at one input. -/
def gcdDividesWrong : ChangeSpec := { name := "gcdDivides", fn := fun _ => fun
  | [d1, d2, d3] => { results := [.lit (.bool false)], args := [d1, d2, d3] }
  | _ => none }
def GcdDividesWrongFalsely : Prop := gcdDividesRow.holds Try.pinned (OpenSpec.ofChange gcdDividesWrong)

/-- 'mullionlaw4.GcdSteps': WHATEVER THE INPUT: true; the input reads as it did. -/
def gcdStepsSpec : ChangeSpec := { name := "gcdSteps", fn := fun _ => fun
  | [d1, d2, d3] => { results := [.lit (.bool true)], args := [d1, d2, d3] }
  | _ => none }
def gcdStepsRow : OpenClaim := { program := "ytohpbppplfdieaa", sum := "370a1f7bd2d85e6392fd76217886c5e35553bd648111cbd974f664d2595bafba", func := "mullion/mullionlaw4.GcdSteps", spec := "gcdSteps", unfollowed := true, recurses := true, apart := false }
def GcdStepsSaid : Prop := gcdStepsRow.holds Try.pinned (OpenSpec.ofChange gcdStepsSpec)

/-- ITS FALSE NEIGHBOUR: 'it returns false'. Refute it at one input. -/
def gcdStepsWrong : ChangeSpec := { name := "gcdSteps", fn := fun _ => fun
  | [d1, d2, d3] => { results := [.lit (.bool false)], args := [d1, d2, d3] }
  | _ => none }
def GcdStepsWrongFalsely : Prop := gcdStepsRow.holds Try.pinned (OpenSpec.ofChange gcdStepsWrong)

/-- 'mullionlaw4.GcdRows': WHATEVER THE INPUT: true; the input reads as it did. -/
def gcdRowsSpec : ChangeSpec := { name := "gcdRows", fn := fun _ => fun
  | [d1, d2] => { results := [.lit (.bool true)], args := [d1, d2] }
  | _ => none }
def gcdRowsRow : OpenClaim := { program := "ytohpbppplfdieaa", sum := "370a1f7bd2d85e6392fd76217886c5e35553bd648111cbd974f664d2595bafba", func := "mullion/mullionlaw4.GcdRows", spec := "gcdRows", unfollowed := true, recurses := true, apart := false }
def GcdRowsSaid : Prop := gcdRowsRow.holds Try.pinned (OpenSpec.ofChange gcdRowsSpec)

/-- ITS FALSE NEIGHBOUR: 'it returns false'. Refute it at one input. -/
def gcdRowsWrong : ChangeSpec := { name := "gcdRows", fn := fun _ => fun
  | [d1, d2] => { results := [.lit (.bool false)], args := [d1, d2] }
  | _ => none }
def GcdRowsWrongFalsely : Prop := gcdRowsRow.holds Try.pinned (OpenSpec.ofChange gcdRowsWrong)

/-- 'mullionlaw2.WholeEnds': WHATEVER THE INPUT: true; the input reads as it did. -/
def wholeEndsSpec : ChangeSpec := { name := "wholeEnds", fn := fun _ => fun
  | [d1, d2] => { results := [.lit (.bool true)], args := [d1, d2] }
  | _ => none }
def wholeEndsRow : OpenClaim := { program := "ytohpbppplfdieaa", sum := "370a1f7bd2d85e6392fd76217886c5e35553bd648111cbd974f664d2595bafba", func := "mullion/mullionlaw2.WholeEnds", spec := "wholeEnds", unfollowed := true, recurses := true, apart := false }
def WholeEndsSaid : Prop := wholeEndsRow.holds Try.pinned (OpenSpec.ofChange wholeEndsSpec)

/-- ITS FALSE NEIGHBOUR: 'it returns false'. Refute it at one input. -/
def wholeEndsWrong : ChangeSpec := { name := "wholeEnds", fn := fun _ => fun
  | [d1, d2] => { results := [.lit (.bool false)], args := [d1, d2] }
  | _ => none }
def WholeEndsWrongFalsely : Prop := wholeEndsRow.holds Try.pinned (OpenSpec.ofChange wholeEndsWrong)

/-- 'mullionlaw2.WholeDivides': WHATEVER THE INPUT: true; the input reads as it did. -/
def wholeDividesSpec : ChangeSpec := { name := "wholeDivides", fn := fun _ => fun
  | [d1, d2] => { results := [.lit (.bool true)], args := [d1, d2] }
  | _ => none }
def wholeDividesRow : OpenClaim := { program := "ytohpbppplfdieaa", sum := "370a1f7bd2d85e6392fd76217886c5e35553bd648111cbd974f664d2595bafba", func := "mullion/mullionlaw2.WholeDivides", spec := "wholeDivides", unfollowed := true, recurses := true, apart := false }
def WholeDividesSaid : Prop := wholeDividesRow.holds Try.pinned (OpenSpec.ofChange wholeDividesSpec)

/-- ITS FALSE NEIGHBOUR: 'it returns false'. Refute it at one input. -/
def wholeDividesWrong : ChangeSpec := { name := "wholeDivides", fn := fun _ => fun
  | [d1, d2] => { results := [.lit (.bool false)], args := [d1, d2] }
  | _ => none }
def WholeDividesWrongFalsely : Prop := wholeDividesRow.holds Try.pinned (OpenSpec.ofChange wholeDividesWrong)

/-- 'mullionlaw2.WholeExact': WHATEVER THE INPUT: true; the input reads as it did. -/
def wholeExactSpec : ChangeSpec := { name := "wholeExact", fn := fun _ => fun
  | [d1, d2, d3] => { results := [.lit (.bool true)], args := [d1, d2, d3] }
  | _ => none }
def wholeExactRow : OpenClaim := { program := "ytohpbppplfdieaa", sum := "370a1f7bd2d85e6392fd76217886c5e35553bd648111cbd974f664d2595bafba", func := "mullion/mullionlaw2.WholeExact", spec := "wholeExact", unfollowed := true, recurses := true, apart := false }
def WholeExactSaid : Prop := wholeExactRow.holds Try.pinned (OpenSpec.ofChange wholeExactSpec)

/-- ITS FALSE NEIGHBOUR: 'it returns false'. Refute it at one input. -/
def wholeExactWrong : ChangeSpec := { name := "wholeExact", fn := fun _ => fun
  | [d1, d2, d3] => { results := [.lit (.bool false)], args := [d1, d2, d3] }
  | _ => none }
def WholeExactWrongFalsely : Prop := wholeExactRow.holds Try.pinned (OpenSpec.ofChange wholeExactWrong)

/-- 'mullionlaw2.WholeSmall': WHATEVER THE INPUT: true; the input reads as it did. -/
def wholeSmallSpec : ChangeSpec := { name := "wholeSmall", fn := fun _ => fun
  | [d1, d2] => { results := [.lit (.bool true)], args := [d1, d2] }
  | _ => none }
def wholeSmallRow : OpenClaim := { program := "ytohpbppplfdieaa", sum := "370a1f7bd2d85e6392fd76217886c5e35553bd648111cbd974f664d2595bafba", func := "mullion/mullionlaw2.WholeSmall", spec := "wholeSmall", unfollowed := true, recurses := true, apart := false }
def WholeSmallSaid : Prop := wholeSmallRow.holds Try.pinned (OpenSpec.ofChange wholeSmallSpec)

/-- ITS FALSE NEIGHBOUR: 'it returns false'. Refute it at one input. -/
def wholeSmallWrong : ChangeSpec := { name := "wholeSmall", fn := fun _ => fun
  | [d1, d2] => { results := [.lit (.bool false)], args := [d1, d2] }
  | _ => none }
def WholeSmallWrongFalsely : Prop := wholeSmallRow.holds Try.pinned (OpenSpec.ofChange wholeSmallWrong)

/-- 'mullionlaw2.WholeOrders': WHATEVER THE INPUT: true; the input reads as it did. -/
def wholeOrdersSpec : ChangeSpec := { name := "wholeOrders", fn := fun _ => fun
  | [d1, d2, d3] => { results := [.lit (.bool true)], args := [d1, d2, d3] }
  | _ => none }
def wholeOrdersRow : OpenClaim := { program := "ytohpbppplfdieaa", sum := "370a1f7bd2d85e6392fd76217886c5e35553bd648111cbd974f664d2595bafba", func := "mullion/mullionlaw2.WholeOrders", spec := "wholeOrders", unfollowed := true, recurses := true, apart := false }
def WholeOrdersSaid : Prop := wholeOrdersRow.holds Try.pinned (OpenSpec.ofChange wholeOrdersSpec)

/-- ITS FALSE NEIGHBOUR: 'it returns false'. Refute it at one input. -/
def wholeOrdersWrong : ChangeSpec := { name := "wholeOrders", fn := fun _ => fun
  | [d1, d2, d3] => { results := [.lit (.bool false)], args := [d1, d2, d3] }
  | _ => none }
def WholeOrdersWrongFalsely : Prop := wholeOrdersRow.holds Try.pinned (OpenSpec.ofChange wholeOrdersWrong)

/-- 'mullionlaw2.WholeTells': WHATEVER THE INPUT: true; the input reads as it did. -/
def wholeTellsSpec : ChangeSpec := { name := "wholeTells", fn := fun _ => fun
  | [d1, d2, d3] => { results := [.lit (.bool true)], args := [d1, d2, d3] }
  | _ => none }
def wholeTellsRow : OpenClaim := { program := "ytohpbppplfdieaa", sum := "370a1f7bd2d85e6392fd76217886c5e35553bd648111cbd974f664d2595bafba", func := "mullion/mullionlaw2.WholeTells", spec := "wholeTells", unfollowed := true, recurses := true, apart := false }
def WholeTellsSaid : Prop := wholeTellsRow.holds Try.pinned (OpenSpec.ofChange wholeTellsSpec)

/-- ITS FALSE NEIGHBOUR: 'it returns false'. Refute it at one input. -/
def wholeTellsWrong : ChangeSpec := { name := "wholeTells", fn := fun _ => fun
  | [d1, d2, d3] => { results := [.lit (.bool false)], args := [d1, d2, d3] }
  | _ => none }
def WholeTellsWrongFalsely : Prop := wholeTellsRow.holds Try.pinned (OpenSpec.ofChange wholeTellsWrong)

/-- 'mullionlaw2.WholeRules': WHATEVER THE INPUT: true; the input reads as it did. -/
def wholeRulesSpec : ChangeSpec := { name := "wholeRules", fn := fun _ => fun
  | [d1, d2, d3] => { results := [.lit (.bool true)], args := [d1, d2, d3] }
  | _ => none }
def wholeRulesRow : OpenClaim := { program := "ytohpbppplfdieaa", sum := "370a1f7bd2d85e6392fd76217886c5e35553bd648111cbd974f664d2595bafba", func := "mullion/mullionlaw2.WholeRules", spec := "wholeRules", unfollowed := true, recurses := true, apart := false }
def WholeRulesSaid : Prop := wholeRulesRow.holds Try.pinned (OpenSpec.ofChange wholeRulesSpec)

/-- ITS FALSE NEIGHBOUR: 'it returns false'. Refute it at one input. -/
def wholeRulesWrong : ChangeSpec := { name := "wholeRules", fn := fun _ => fun
  | [d1, d2, d3] => { results := [.lit (.bool false)], args := [d1, d2, d3] }
  | _ => none }
def WholeRulesWrongFalsely : Prop := wholeRulesRow.holds Try.pinned (OpenSpec.ofChange wholeRulesWrong)

/- THE SECOND FORM. 'bulk': how many values and letters a reading holds, each counted each time it is reached (what is shared counts as often as it is met; a slice's spare places count too). A statement '..UptoSaid' is the law's where the arguments, and the package variables that the reading takes, are together of bulk at most 1048576: NARROWER than '..Said'. Prove '..Said' where nothing that the law and all that it calls make is longer than what came in: it says more and counts as full. Else prove '..UptoSaid'. A law counts once. -/
mutual
def uptoBulk {H : Type} : DataW H → Nat
  | .lit (.string bytes) => bytes.length + 1
  | .lit _ => 1
  | .nil => 1
  | .ptr d => uptoBulk d + 1
  | .slice elems spare => uptoBulkAll elems + uptoBulkAll spare + 1
  | .agg parts => uptoBulkAll parts + 1
  | .iface _ d => uptoBulk d + 1
  | .map entries => uptoBulkEntries entries + 1
  | .held _ => 1
def uptoBulkAll {H : Type} : List (DataW H) → Nat
  | [] => 0
  | d :: r => uptoBulk d + uptoBulkAll r
def uptoBulkEntries {H : Type} : List (Lit × DataW H) → Nat
  | [] => 0
  | x :: r => uptoBulkEntry x + uptoBulkEntries r
def uptoBulkEntry {H : Type} : Lit × DataW H → Nat
  | (.string bytes, d) => bytes.length + uptoBulk d + 1
  | (_, d) => uptoBulk d + 1
 end
def uptoSmall : (H : Type) → List (DataW H) → Bool := fun _ ds => decide (uptoBulkAll ds ≤ 1048576)
def OpenSpec.upto (s : _root_.Go.ChangeSpec) : _root_.Go.OpenSpec := { _root_.Go.OpenSpec.ofChange s with cond := some uptoSmall }

/-- 'mullionlaw4.GcdTells', WHERE WHAT IT READS IS OF BULK AT MOST 1048576: true; the input reads as it did. -/
def gcdTellsUptoRow : OpenClaim := { program := "ytohpbppplfdieaa", sum := "370a1f7bd2d85e6392fd76217886c5e35553bd648111cbd974f664d2595bafba", func := "mullion/mullionlaw4.GcdTells", spec := "gcdTells", unfollowed := true, recurses := true, apart := false, narrowed := true }
def GcdTellsUptoSaid : Prop := gcdTellsUptoRow.holds Try.pinned (OpenSpec.upto gcdTellsSpec)

/-- 'mullionlaw4.GcdExt', WHERE WHAT IT READS IS OF BULK AT MOST 1048576: true; the input reads as it did. -/
def gcdExtUptoRow : OpenClaim := { program := "ytohpbppplfdieaa", sum := "370a1f7bd2d85e6392fd76217886c5e35553bd648111cbd974f664d2595bafba", func := "mullion/mullionlaw4.GcdExt", spec := "gcdExt", unfollowed := true, recurses := true, apart := false, narrowed := true }
def GcdExtUptoSaid : Prop := gcdExtUptoRow.holds Try.pinned (OpenSpec.upto gcdExtSpec)

/-- 'mullionlaw4.GcdDivides', WHERE WHAT IT READS IS OF BULK AT MOST 1048576: true; the input reads as it did. -/
def gcdDividesUptoRow : OpenClaim := { program := "ytohpbppplfdieaa", sum := "370a1f7bd2d85e6392fd76217886c5e35553bd648111cbd974f664d2595bafba", func := "mullion/mullionlaw4.GcdDivides", spec := "gcdDivides", unfollowed := true, recurses := true, apart := false, narrowed := true }
def GcdDividesUptoSaid : Prop := gcdDividesUptoRow.holds Try.pinned (OpenSpec.upto gcdDividesSpec)

/-- 'mullionlaw4.GcdSteps', WHERE WHAT IT READS IS OF BULK AT MOST 1048576: true; the input reads as it did. -/
def gcdStepsUptoRow : OpenClaim := { program := "ytohpbppplfdieaa", sum := "370a1f7bd2d85e6392fd76217886c5e35553bd648111cbd974f664d2595bafba", func := "mullion/mullionlaw4.GcdSteps", spec := "gcdSteps", unfollowed := true, recurses := true, apart := false, narrowed := true }
def GcdStepsUptoSaid : Prop := gcdStepsUptoRow.holds Try.pinned (OpenSpec.upto gcdStepsSpec)

/-- 'mullionlaw4.GcdRows', WHERE WHAT IT READS IS OF BULK AT MOST 1048576: true; the input reads as it did. -/
def gcdRowsUptoRow : OpenClaim := { program := "ytohpbppplfdieaa", sum := "370a1f7bd2d85e6392fd76217886c5e35553bd648111cbd974f664d2595bafba", func := "mullion/mullionlaw4.GcdRows", spec := "gcdRows", unfollowed := true, recurses := true, apart := false, narrowed := true }
def GcdRowsUptoSaid : Prop := gcdRowsUptoRow.holds Try.pinned (OpenSpec.upto gcdRowsSpec)

/-- 'mullionlaw2.WholeEnds', WHERE WHAT IT READS IS OF BULK AT MOST 1048576: true; the input reads as it did. -/
def wholeEndsUptoRow : OpenClaim := { program := "ytohpbppplfdieaa", sum := "370a1f7bd2d85e6392fd76217886c5e35553bd648111cbd974f664d2595bafba", func := "mullion/mullionlaw2.WholeEnds", spec := "wholeEnds", unfollowed := true, recurses := true, apart := false, narrowed := true }
def WholeEndsUptoSaid : Prop := wholeEndsUptoRow.holds Try.pinned (OpenSpec.upto wholeEndsSpec)

/-- 'mullionlaw2.WholeDivides', WHERE WHAT IT READS IS OF BULK AT MOST 1048576: true; the input reads as it did. -/
def wholeDividesUptoRow : OpenClaim := { program := "ytohpbppplfdieaa", sum := "370a1f7bd2d85e6392fd76217886c5e35553bd648111cbd974f664d2595bafba", func := "mullion/mullionlaw2.WholeDivides", spec := "wholeDivides", unfollowed := true, recurses := true, apart := false, narrowed := true }
def WholeDividesUptoSaid : Prop := wholeDividesUptoRow.holds Try.pinned (OpenSpec.upto wholeDividesSpec)

/-- 'mullionlaw2.WholeExact', WHERE WHAT IT READS IS OF BULK AT MOST 1048576: true; the input reads as it did. -/
def wholeExactUptoRow : OpenClaim := { program := "ytohpbppplfdieaa", sum := "370a1f7bd2d85e6392fd76217886c5e35553bd648111cbd974f664d2595bafba", func := "mullion/mullionlaw2.WholeExact", spec := "wholeExact", unfollowed := true, recurses := true, apart := false, narrowed := true }
def WholeExactUptoSaid : Prop := wholeExactUptoRow.holds Try.pinned (OpenSpec.upto wholeExactSpec)

/-- 'mullionlaw2.WholeSmall', WHERE WHAT IT READS IS OF BULK AT MOST 1048576: true; the input reads as it did. -/
def wholeSmallUptoRow : OpenClaim := { program := "ytohpbppplfdieaa", sum := "370a1f7bd2d85e6392fd76217886c5e35553bd648111cbd974f664d2595bafba", func := "mullion/mullionlaw2.WholeSmall", spec := "wholeSmall", unfollowed := true, recurses := true, apart := false, narrowed := true }
def WholeSmallUptoSaid : Prop := wholeSmallUptoRow.holds Try.pinned (OpenSpec.upto wholeSmallSpec)

/-- 'mullionlaw2.WholeOrders', WHERE WHAT IT READS IS OF BULK AT MOST 1048576: true; the input reads as it did. -/
def wholeOrdersUptoRow : OpenClaim := { program := "ytohpbppplfdieaa", sum := "370a1f7bd2d85e6392fd76217886c5e35553bd648111cbd974f664d2595bafba", func := "mullion/mullionlaw2.WholeOrders", spec := "wholeOrders", unfollowed := true, recurses := true, apart := false, narrowed := true }
def WholeOrdersUptoSaid : Prop := wholeOrdersUptoRow.holds Try.pinned (OpenSpec.upto wholeOrdersSpec)

/-- 'mullionlaw2.WholeTells', WHERE WHAT IT READS IS OF BULK AT MOST 1048576: true; the input reads as it did. -/
def wholeTellsUptoRow : OpenClaim := { program := "ytohpbppplfdieaa", sum := "370a1f7bd2d85e6392fd76217886c5e35553bd648111cbd974f664d2595bafba", func := "mullion/mullionlaw2.WholeTells", spec := "wholeTells", unfollowed := true, recurses := true, apart := false, narrowed := true }
def WholeTellsUptoSaid : Prop := wholeTellsUptoRow.holds Try.pinned (OpenSpec.upto wholeTellsSpec)

/-- 'mullionlaw2.WholeRules', WHERE WHAT IT READS IS OF BULK AT MOST 1048576: true; the input reads as it did. -/
def wholeRulesUptoRow : OpenClaim := { program := "ytohpbppplfdieaa", sum := "370a1f7bd2d85e6392fd76217886c5e35553bd648111cbd974f664d2595bafba", func := "mullion/mullionlaw2.WholeRules", spec := "wholeRules", unfollowed := true, recurses := true, apart := false, narrowed := true }
def WholeRulesUptoSaid : Prop := wholeRulesUptoRow.holds Try.pinned (OpenSpec.upto wholeRulesSpec)

end Rows
end Go.Proofs.Ytohpbppplfdieaa
