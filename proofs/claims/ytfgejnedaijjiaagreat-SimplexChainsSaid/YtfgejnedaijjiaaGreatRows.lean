/-
  No cell of these rows narrows 'for every input' (looked for: loops, veiled, ifaces, maps, wideKeys, modest, calm, conditions, laid).
  DERIVED. THE GIVEN ROWS OF THIS SEAT. 9 by the template 'for every input the law returns true; each argument reads behind the call as it read before'; 0 by the template 'total and deterministic' (their statements: YtfgejnedaijjiaaGreatTotals.lean).
  GIVEN WITH THE SEED: the statements are not yours to turn. If you find one false, say at which input.
  Laid BY PROGRAM, IN A SANDBOX (cutbox-rows.mjs): the forced cells as the released guide's own fill.sh prints them over the translation 286c0a12d624bbaa… (all of the seat's roots in one cut). By AI agents, Wed Nov 11 2026. No macro, syntax, notation, axiom, sorry.
-/
import Derived.Test.YtfgejnedaijjiaaGreatChecked
import GoSem.Claim
import GoSem.ClaimJoined
import GoSem.ClaimMapViews
import Derived.JoinedTies
import Derived.KernelRfl
namespace Go.Proofs.YtfgejnedaijjiaaGreat
/- THE CELL 'sum', in the pinned program and in every row, IS THE sha256 OF THE DUMP (.gsa) THAT YtfgejnedaijjiaaGreatProg.lean LOADS. Nothing in Lean hashes anything: it is a label: what it is worth is what the hold of that sum in a sandbox is worth. -/
noncomputable def Tryz.pinned : Pinned := { name := "ytfgejnedaijjiaagreat", sum := "286c0a12d624bbaaa450f49543d445554ca561824cf57da8f9013d48b5ca2e1a", checked := Tryz.checked }
namespace Rows
def none {H : Type} : Left H := { results := [], args := [] }

/-- 'mullionlaw19.SimplexSolves': WHATEVER THE INPUT: true; the input reads as it did. -/
def simplexSolvesSpec : ChangeSpec := { name := "simplexSolves", fn := fun _ => fun
  | [d1, d2] => { results := [.lit (.bool true)], args := [d1, d2] }
  | _ => none }
def simplexSolvesRow : OpenClaim := { program := "ytfgejnedaijjiaagreat", sum := "286c0a12d624bbaaa450f49543d445554ca561824cf57da8f9013d48b5ca2e1a", func := "mullion/mullionlaw19.SimplexSolves", spec := "simplexSolves", apart := false }
def SimplexSolvesSaid : Prop := simplexSolvesRow.holds Tryz.pinned (OpenSpec.ofChange simplexSolvesSpec)

/-- ITS FALSE NEIGHBOUR: 'it returns false'. Refute it at one input. -/
def simplexSolvesWrong : ChangeSpec := { name := "simplexSolves", fn := fun _ => fun
  | [d1, d2] => { results := [.lit (.bool false)], args := [d1, d2] }
  | _ => none }
def SimplexSolvesWrongFalsely : Prop := simplexSolvesRow.holds Tryz.pinned (OpenSpec.ofChange simplexSolvesWrong)

/-- 'mullionlaw19.SimplexPoints': WHATEVER THE INPUT: true; the input reads as it did. -/
def simplexPointsSpec : ChangeSpec := { name := "simplexPoints", fn := fun _ => fun
  | [d1, d2] => { results := [.lit (.bool true)], args := [d1, d2] }
  | _ => none }
def simplexPointsRow : OpenClaim := { program := "ytfgejnedaijjiaagreat", sum := "286c0a12d624bbaaa450f49543d445554ca561824cf57da8f9013d48b5ca2e1a", func := "mullion/mullionlaw19.SimplexPoints", spec := "simplexPoints", apart := false }
def SimplexPointsSaid : Prop := simplexPointsRow.holds Tryz.pinned (OpenSpec.ofChange simplexPointsSpec)

/-- ITS FALSE NEIGHBOUR: 'it returns false'. Refute it at one input. -/
def simplexPointsWrong : ChangeSpec := { name := "simplexPoints", fn := fun _ => fun
  | [d1, d2] => { results := [.lit (.bool false)], args := [d1, d2] }
  | _ => none }
def SimplexPointsWrongFalsely : Prop := simplexPointsRow.holds Tryz.pinned (OpenSpec.ofChange simplexPointsWrong)

/-- 'mullionlaw19.SimplexBoxes': WHATEVER THE INPUT: true; the input reads as it did. -/
def simplexBoxesSpec : ChangeSpec := { name := "simplexBoxes", fn := fun _ => fun
  | [d1, d2, d3] => { results := [.lit (.bool true)], args := [d1, d2, d3] }
  | _ => none }
def simplexBoxesRow : OpenClaim := { program := "ytfgejnedaijjiaagreat", sum := "286c0a12d624bbaaa450f49543d445554ca561824cf57da8f9013d48b5ca2e1a", func := "mullion/mullionlaw19.SimplexBoxes", spec := "simplexBoxes", apart := false }
def SimplexBoxesSaid : Prop := simplexBoxesRow.holds Tryz.pinned (OpenSpec.ofChange simplexBoxesSpec)

/-- ITS FALSE NEIGHBOUR: 'it returns false'. Refute it at one input. -/
def simplexBoxesWrong : ChangeSpec := { name := "simplexBoxes", fn := fun _ => fun
  | [d1, d2, d3] => { results := [.lit (.bool false)], args := [d1, d2, d3] }
  | _ => none }
def SimplexBoxesWrongFalsely : Prop := simplexBoxesRow.holds Tryz.pinned (OpenSpec.ofChange simplexBoxesWrong)

/-- 'mullionlaw19.SimplexChains': WHATEVER THE INPUT: true; the input reads as it did. -/
def simplexChainsSpec : ChangeSpec := { name := "simplexChains", fn := fun _ => fun
  | [d] => { results := [.lit (.bool true)], args := [d] }
  | _ => none }
def simplexChainsRow : OpenClaim := { program := "ytfgejnedaijjiaagreat", sum := "286c0a12d624bbaaa450f49543d445554ca561824cf57da8f9013d48b5ca2e1a", func := "mullion/mullionlaw19.SimplexChains", spec := "simplexChains", apart := false }
def SimplexChainsSaid : Prop := simplexChainsRow.holds Tryz.pinned (OpenSpec.ofChange simplexChainsSpec)

/-- ITS FALSE NEIGHBOUR: 'it returns false'. Refute it at one input. -/
def simplexChainsWrong : ChangeSpec := { name := "simplexChains", fn := fun _ => fun
  | [d] => { results := [.lit (.bool false)], args := [d] }
  | _ => none }
def SimplexChainsWrongFalsely : Prop := simplexChainsRow.holds Tryz.pinned (OpenSpec.ofChange simplexChainsWrong)

/-- 'mullionlaw19.SimplexTells': WHATEVER THE INPUT: true; the input reads as it did. -/
def simplexTellsSpec : ChangeSpec := { name := "simplexTells", fn := fun _ => fun
  | [d1, d2, d3] => { results := [.lit (.bool true)], args := [d1, d2, d3] }
  | _ => none }
def simplexTellsRow : OpenClaim := { program := "ytfgejnedaijjiaagreat", sum := "286c0a12d624bbaaa450f49543d445554ca561824cf57da8f9013d48b5ca2e1a", func := "mullion/mullionlaw19.SimplexTells", spec := "simplexTells", apart := false }
def SimplexTellsSaid : Prop := simplexTellsRow.holds Tryz.pinned (OpenSpec.ofChange simplexTellsSpec)

/-- ITS FALSE NEIGHBOUR: 'it returns false'. Refute it at one input. -/
def simplexTellsWrong : ChangeSpec := { name := "simplexTells", fn := fun _ => fun
  | [d1, d2, d3] => { results := [.lit (.bool false)], args := [d1, d2, d3] }
  | _ => none }
def SimplexTellsWrongFalsely : Prop := simplexTellsRow.holds Tryz.pinned (OpenSpec.ofChange simplexTellsWrong)

/-- 'mullionlaw21.CutTells': WHATEVER THE INPUT: true; the input reads as it did. -/
def cutTellsSpec : ChangeSpec := { name := "cutTells", fn := fun _ => fun
  | [d1, d2, d3, d4, d5] => { results := [.lit (.bool true)], args := [d1, d2, d3, d4, d5] }
  | _ => none }
def cutTellsRow : OpenClaim := { program := "ytfgejnedaijjiaagreat", sum := "286c0a12d624bbaaa450f49543d445554ca561824cf57da8f9013d48b5ca2e1a", func := "mullion/mullionlaw21.CutTells", spec := "cutTells", unfollowed := true, recurses := true, apart := false }
def CutTellsSaid : Prop := cutTellsRow.holds Tryz.pinned (OpenSpec.ofChange cutTellsSpec)

/-- ITS FALSE NEIGHBOUR: 'it returns false'. Refute it at one input. -/
def cutTellsWrong : ChangeSpec := { name := "cutTells", fn := fun _ => fun
  | [d1, d2, d3, d4, d5] => { results := [.lit (.bool false)], args := [d1, d2, d3, d4, d5] }
  | _ => none }
def CutTellsWrongFalsely : Prop := cutTellsRow.holds Tryz.pinned (OpenSpec.ofChange cutTellsWrong)

/-- 'mullionlaw21.CutValid': WHATEVER THE INPUT: true; the input reads as it did. -/
def cutValidSpec : ChangeSpec := { name := "cutValid", fn := fun _ => fun
  | [d1, d2, d3, d4, d5, d6] => { results := [.lit (.bool true)], args := [d1, d2, d3, d4, d5, d6] }
  | _ => none }
def cutValidRow : OpenClaim := { program := "ytfgejnedaijjiaagreat", sum := "286c0a12d624bbaaa450f49543d445554ca561824cf57da8f9013d48b5ca2e1a", func := "mullion/mullionlaw21.CutValid", spec := "cutValid", unfollowed := true, recurses := true, apart := false }
def CutValidSaid : Prop := cutValidRow.holds Tryz.pinned (OpenSpec.ofChange cutValidSpec)

/-- ITS FALSE NEIGHBOUR: 'it returns false'. Refute it at one input. -/
def cutValidWrong : ChangeSpec := { name := "cutValid", fn := fun _ => fun
  | [d1, d2, d3, d4, d5, d6] => { results := [.lit (.bool false)], args := [d1, d2, d3, d4, d5, d6] }
  | _ => none }
def CutValidWrongFalsely : Prop := cutValidRow.holds Tryz.pinned (OpenSpec.ofChange cutValidWrong)

/-- 'mullionlaw21.CutHalves': WHATEVER THE INPUT: true; the input reads as it did. -/
def cutHalvesSpec : ChangeSpec := { name := "cutHalves", fn := fun _ => fun
  | [d1, d2] => { results := [.lit (.bool true)], args := [d1, d2] }
  | _ => none }
def cutHalvesRow : OpenClaim := { program := "ytfgejnedaijjiaagreat", sum := "286c0a12d624bbaaa450f49543d445554ca561824cf57da8f9013d48b5ca2e1a", func := "mullion/mullionlaw21.CutHalves", spec := "cutHalves", unfollowed := true, recurses := true, apart := false }
def CutHalvesSaid : Prop := cutHalvesRow.holds Tryz.pinned (OpenSpec.ofChange cutHalvesSpec)

/-- ITS FALSE NEIGHBOUR: 'it returns false'. Refute it at one input. -/
def cutHalvesWrong : ChangeSpec := { name := "cutHalves", fn := fun _ => fun
  | [d1, d2] => { results := [.lit (.bool false)], args := [d1, d2] }
  | _ => none }
def CutHalvesWrongFalsely : Prop := cutHalvesRow.holds Tryz.pinned (OpenSpec.ofChange cutHalvesWrong)

/-- 'mullionlaw21.CutBranches': WHATEVER THE INPUT: true; the input reads as it did. -/
def cutBranchesSpec : ChangeSpec := { name := "cutBranches", fn := fun _ => fun
  | [d1, d2, d3] => { results := [.lit (.bool true)], args := [d1, d2, d3] }
  | _ => none }
def cutBranchesRow : OpenClaim := { program := "ytfgejnedaijjiaagreat", sum := "286c0a12d624bbaaa450f49543d445554ca561824cf57da8f9013d48b5ca2e1a", func := "mullion/mullionlaw21.CutBranches", spec := "cutBranches", unfollowed := true, recurses := true, apart := false }
def CutBranchesSaid : Prop := cutBranchesRow.holds Tryz.pinned (OpenSpec.ofChange cutBranchesSpec)

/-- ITS FALSE NEIGHBOUR: 'it returns false'. Refute it at one input. -/
def cutBranchesWrong : ChangeSpec := { name := "cutBranches", fn := fun _ => fun
  | [d1, d2, d3] => { results := [.lit (.bool false)], args := [d1, d2, d3] }
  | _ => none }
def CutBranchesWrongFalsely : Prop := cutBranchesRow.holds Tryz.pinned (OpenSpec.ofChange cutBranchesWrong)

/- THE SECOND FORM. 'bulk': how many values and letters a reading holds, each counted each time it is reached (what is shared counts as often as it is met; a slice's spare places count too). A statement '..UptoSaid' is the law's where the arguments, and the package variables that the reading takes, are together of bulk at most 1048576: NARROWER than '..Said'. Prove '..Said' where nothing that the law and all that it calls make is longer than what came in: it says more and counts as full. Else prove '..UptoSaid'. A law counts once. -/
mutual
def uptoBulk {H : Type} : DataW H → Nat
  | .lit (.string bytes) => bytes.length + 1
  | .lit _ => 1
  | .nil => 1
  | .ptr d => uptoBulk d + 1
  | .slice elems spare => uptoBulkAll elems + uptoBulkAll spare + 1
  | .agg parts => uptoBulkAll parts + 1
  | .iface _ d => uptoBulk d + 1
  | .map entries => uptoBulkEntries entries + 1
  | .held _ => 1
def uptoBulkAll {H : Type} : List (DataW H) → Nat
  | [] => 0
  | d :: r => uptoBulk d + uptoBulkAll r
def uptoBulkEntries {H : Type} : List (Lit × DataW H) → Nat
  | [] => 0
  | x :: r => uptoBulkEntry x + uptoBulkEntries r
def uptoBulkEntry {H : Type} : Lit × DataW H → Nat
  | (.string bytes, d) => bytes.length + uptoBulk d + 1
  | (_, d) => uptoBulk d + 1
 end
def uptoSmall : (H : Type) → List (DataW H) → Bool := fun _ ds => decide (uptoBulkAll ds ≤ 1048576)
def OpenSpec.upto (s : _root_.Go.ChangeSpec) : _root_.Go.OpenSpec := { _root_.Go.OpenSpec.ofChange s with cond := some uptoSmall }

/-- 'mullionlaw19.SimplexSolves', WHERE WHAT IT READS IS OF BULK AT MOST 1048576: true; the input reads as it did. -/
def simplexSolvesUptoRow : OpenClaim := { program := "ytfgejnedaijjiaagreat", sum := "286c0a12d624bbaaa450f49543d445554ca561824cf57da8f9013d48b5ca2e1a", func := "mullion/mullionlaw19.SimplexSolves", spec := "simplexSolves", apart := false, narrowed := true }
def SimplexSolvesUptoSaid : Prop := simplexSolvesUptoRow.holds Tryz.pinned (OpenSpec.upto simplexSolvesSpec)

/-- 'mullionlaw19.SimplexPoints', WHERE WHAT IT READS IS OF BULK AT MOST 1048576: true; the input reads as it did. -/
def simplexPointsUptoRow : OpenClaim := { program := "ytfgejnedaijjiaagreat", sum := "286c0a12d624bbaaa450f49543d445554ca561824cf57da8f9013d48b5ca2e1a", func := "mullion/mullionlaw19.SimplexPoints", spec := "simplexPoints", apart := false, narrowed := true }
def SimplexPointsUptoSaid : Prop := simplexPointsUptoRow.holds Tryz.pinned (OpenSpec.upto simplexPointsSpec)

/-- 'mullionlaw19.SimplexBoxes', WHERE WHAT IT READS IS OF BULK AT MOST 1048576: true; the input reads as it did. -/
def simplexBoxesUptoRow : OpenClaim := { program := "ytfgejnedaijjiaagreat", sum := "286c0a12d624bbaaa450f49543d445554ca561824cf57da8f9013d48b5ca2e1a", func := "mullion/mullionlaw19.SimplexBoxes", spec := "simplexBoxes", apart := false, narrowed := true }
def SimplexBoxesUptoSaid : Prop := simplexBoxesUptoRow.holds Tryz.pinned (OpenSpec.upto simplexBoxesSpec)

/-- 'mullionlaw19.SimplexChains', WHERE WHAT IT READS IS OF BULK AT MOST 1048576: true; the input reads as it did. -/
def simplexChainsUptoRow : OpenClaim := { program := "ytfgejnedaijjiaagreat", sum := "286c0a12d624bbaaa450f49543d445554ca561824cf57da8f9013d48b5ca2e1a", func := "mullion/mullionlaw19.SimplexChains", spec := "simplexChains", apart := false, narrowed := true }
def SimplexChainsUptoSaid : Prop := simplexChainsUptoRow.holds Tryz.pinned (OpenSpec.upto simplexChainsSpec)

/-- 'mullionlaw19.SimplexTells', WHERE WHAT IT READS IS OF BULK AT MOST 1048576: true; the input reads as it did. -/
def simplexTellsUptoRow : OpenClaim := { program := "ytfgejnedaijjiaagreat", sum := "286c0a12d624bbaaa450f49543d445554ca561824cf57da8f9013d48b5ca2e1a", func := "mullion/mullionlaw19.SimplexTells", spec := "simplexTells", apart := false, narrowed := true }
def SimplexTellsUptoSaid : Prop := simplexTellsUptoRow.holds Tryz.pinned (OpenSpec.upto simplexTellsSpec)

/-- 'mullionlaw21.CutTells', WHERE WHAT IT READS IS OF BULK AT MOST 1048576: true; the input reads as it did. -/
def cutTellsUptoRow : OpenClaim := { program := "ytfgejnedaijjiaagreat", sum := "286c0a12d624bbaaa450f49543d445554ca561824cf57da8f9013d48b5ca2e1a", func := "mullion/mullionlaw21.CutTells", spec := "cutTells", unfollowed := true, recurses := true, apart := false, narrowed := true }
def CutTellsUptoSaid : Prop := cutTellsUptoRow.holds Tryz.pinned (OpenSpec.upto cutTellsSpec)

/-- 'mullionlaw21.CutValid', WHERE WHAT IT READS IS OF BULK AT MOST 1048576: true; the input reads as it did. -/
def cutValidUptoRow : OpenClaim := { program := "ytfgejnedaijjiaagreat", sum := "286c0a12d624bbaaa450f49543d445554ca561824cf57da8f9013d48b5ca2e1a", func := "mullion/mullionlaw21.CutValid", spec := "cutValid", unfollowed := true, recurses := true, apart := false, narrowed := true }
def CutValidUptoSaid : Prop := cutValidUptoRow.holds Tryz.pinned (OpenSpec.upto cutValidSpec)

/-- 'mullionlaw21.CutHalves', WHERE WHAT IT READS IS OF BULK AT MOST 1048576: true; the input reads as it did. -/
def cutHalvesUptoRow : OpenClaim := { program := "ytfgejnedaijjiaagreat", sum := "286c0a12d624bbaaa450f49543d445554ca561824cf57da8f9013d48b5ca2e1a", func := "mullion/mullionlaw21.CutHalves", spec := "cutHalves", unfollowed := true, recurses := true, apart := false, narrowed := true }
def CutHalvesUptoSaid : Prop := cutHalvesUptoRow.holds Tryz.pinned (OpenSpec.upto cutHalvesSpec)

/-- 'mullionlaw21.CutBranches', WHERE WHAT IT READS IS OF BULK AT MOST 1048576: true; the input reads as it did. -/
def cutBranchesUptoRow : OpenClaim := { program := "ytfgejnedaijjiaagreat", sum := "286c0a12d624bbaaa450f49543d445554ca561824cf57da8f9013d48b5ca2e1a", func := "mullion/mullionlaw21.CutBranches", spec := "cutBranches", unfollowed := true, recurses := true, apart := false, narrowed := true }
def CutBranchesUptoSaid : Prop := cutBranchesUptoRow.holds Tryz.pinned (OpenSpec.upto cutBranchesSpec)

end Rows
end Go.Proofs.YtfgejnedaijjiaaGreat
