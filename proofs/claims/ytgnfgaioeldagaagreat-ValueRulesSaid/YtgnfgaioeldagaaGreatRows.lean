/-
  NARROWER THAN 'FOR EVERY INPUT', by the rows' own cells (each row's printed sentence says how): ValueTells: loops · ValueRules: loops · ValueLocal: loops.
  DERIVED. THE GIVEN ROWS OF THIS SEAT. 5 by the template 'for every input the law returns true; each argument reads behind the call as it read before'; 0 by the template 'total and deterministic' (their statements: YtgnfgaioeldagaaGreatTotals.lean).
  GIVEN WITH THE SEED: the statements are not yours to turn. If you find one false, say at which input.
  Laid BY PROGRAM, IN A SANDBOX (cutbox-rows.mjs): the forced cells as the released guide's own fill.sh prints them over the translation 70dc3d9c542857f6… (all of the seat's roots in one cut). By AI agents, Wed Nov 11 2026. No macro, syntax, notation, axiom, sorry.
-/
import Derived.Test.YtgnfgaioeldagaaGreatChecked
import GoSem.Claim
import GoSem.ClaimJoined
import GoSem.ClaimMapViews
import Derived.JoinedTies
import Derived.KernelRfl
namespace Go.Proofs.YtgnfgaioeldagaaGreat
/- THE CELL 'sum', in the pinned program and in every row, IS THE sha256 OF THE DUMP (.gsa) THAT YtgnfgaioeldagaaGreatProg.lean LOADS. Nothing in Lean hashes anything: it is a label: what it is worth is what the hold of that sum in a sandbox is worth. -/
noncomputable def Tryz.pinned : Pinned := { name := "ytgnfgaioeldagaagreat", sum := "70dc3d9c542857f63d9930e702d3e8e917090e351c2d4576a358f0e8cc383fdc", checked := Tryz.checked }
namespace Rows
def none {H : Type} : Left H := { results := [], args := [] }

/-- 'mullionlaw12.ValueTells': WHATEVER THE INPUT: true; the input reads as it did. -/
def valueTellsSpec : ChangeSpec := { name := "valueTells", fn := fun _ => fun
  | [d1, d2, d3, d4, d5, d6, d7] => { results := [.lit (.bool true)], args := [d1, d2, d3, d4, d5, d6, d7] }
  | _ => none }
def valueTellsRow : OpenClaim := { program := "ytgnfgaioeldagaagreat", sum := "70dc3d9c542857f63d9930e702d3e8e917090e351c2d4576a358f0e8cc383fdc", func := "mullion/mullionlaw12.ValueTells", spec := "valueTells", inPlace := ["internal/bytealg.IndexByteString", "internal/bytealg.abigen_runtime_cmpstring"], unfollowed := true, recurses := true, loops := true, apart := false }
def ValueTellsSaid : Prop := valueTellsRow.holds Tryz.pinned (OpenSpec.ofChange valueTellsSpec)

/-- ITS FALSE NEIGHBOUR: 'it returns false'. Refute it at one input. -/
def valueTellsWrong : ChangeSpec := { name := "valueTells", fn := fun _ => fun
  | [d1, d2, d3, d4, d5, d6, d7] => { results := [.lit (.bool false)], args := [d1, d2, d3, d4, d5, d6, d7] }
  | _ => none }
def ValueTellsWrongFalsely : Prop := valueTellsRow.holds Tryz.pinned (OpenSpec.ofChange valueTellsWrong)

/-- 'mullionlaw12.ValueRules': WHATEVER THE INPUT: true; the input reads as it did. -/
def valueRulesSpec : ChangeSpec := { name := "valueRules", fn := fun _ => fun
  | [d1, d2, d3, d4, d5, d6] => { results := [.lit (.bool true)], args := [d1, d2, d3, d4, d5, d6] }
  | _ => none }
def valueRulesRow : OpenClaim := { program := "ytgnfgaioeldagaagreat", sum := "70dc3d9c542857f63d9930e702d3e8e917090e351c2d4576a358f0e8cc383fdc", func := "mullion/mullionlaw12.ValueRules", spec := "valueRules", inPlace := ["internal/bytealg.IndexByteString", "internal/bytealg.abigen_runtime_cmpstring"], unfollowed := true, recurses := true, loops := true, apart := false }
def ValueRulesSaid : Prop := valueRulesRow.holds Tryz.pinned (OpenSpec.ofChange valueRulesSpec)

/-- ITS FALSE NEIGHBOUR: 'it returns false'. Refute it at one input. -/
def valueRulesWrong : ChangeSpec := { name := "valueRules", fn := fun _ => fun
  | [d1, d2, d3, d4, d5, d6] => { results := [.lit (.bool false)], args := [d1, d2, d3, d4, d5, d6] }
  | _ => none }
def ValueRulesWrongFalsely : Prop := valueRulesRow.holds Tryz.pinned (OpenSpec.ofChange valueRulesWrong)

/-- 'mullionlaw12.ValueLocal': WHATEVER THE INPUT: true; the input reads as it did. -/
def valueLocalSpec : ChangeSpec := { name := "valueLocal", fn := fun _ => fun
  | [d1, d2, d3, d4] => { results := [.lit (.bool true)], args := [d1, d2, d3, d4] }
  | _ => none }
def valueLocalRow : OpenClaim := { program := "ytgnfgaioeldagaagreat", sum := "70dc3d9c542857f63d9930e702d3e8e917090e351c2d4576a358f0e8cc383fdc", func := "mullion/mullionlaw12.ValueLocal", spec := "valueLocal", inPlace := ["internal/bytealg.IndexByteString", "internal/bytealg.abigen_runtime_cmpstring"], unfollowed := true, recurses := true, loops := true, apart := false }
def ValueLocalSaid : Prop := valueLocalRow.holds Tryz.pinned (OpenSpec.ofChange valueLocalSpec)

/-- ITS FALSE NEIGHBOUR: 'it returns false'. Refute it at one input. -/
def valueLocalWrong : ChangeSpec := { name := "valueLocal", fn := fun _ => fun
  | [d1, d2, d3, d4] => { results := [.lit (.bool false)], args := [d1, d2, d3, d4] }
  | _ => none }
def ValueLocalWrongFalsely : Prop := valueLocalRow.holds Tryz.pinned (OpenSpec.ofChange valueLocalWrong)

/-- 'mullionlaw12.ValuePuts': WHATEVER THE INPUT: true; the input reads as it did. -/
def valuePutsSpec : ChangeSpec := { name := "valuePuts", fn := fun _ => fun
  | [d1, d2, d3, d4] => { results := [.lit (.bool true)], args := [d1, d2, d3, d4] }
  | _ => none }
def valuePutsRow : OpenClaim := { program := "ytgnfgaioeldagaagreat", sum := "70dc3d9c542857f63d9930e702d3e8e917090e351c2d4576a358f0e8cc383fdc", func := "mullion/mullionlaw12.ValuePuts", spec := "valuePuts", inPlace := ["internal/bytealg.IndexByteString", "internal/bytealg.abigen_runtime_cmpstring"], unfollowed := true, recurses := true, apart := false }
def ValuePutsSaid : Prop := valuePutsRow.holds Tryz.pinned (OpenSpec.ofChange valuePutsSpec)

/-- ITS FALSE NEIGHBOUR: 'it returns false'. Refute it at one input. -/
def valuePutsWrong : ChangeSpec := { name := "valuePuts", fn := fun _ => fun
  | [d1, d2, d3, d4] => { results := [.lit (.bool false)], args := [d1, d2, d3, d4] }
  | _ => none }
def ValuePutsWrongFalsely : Prop := valuePutsRow.holds Tryz.pinned (OpenSpec.ofChange valuePutsWrong)

/-- 'mullionlaw12.ValueTables': WHATEVER THE INPUT: true; the input reads as it did. -/
def valueTablesSpec : ChangeSpec := { name := "valueTables", fn := fun _ => fun
  | [d1, d2, d3] => { results := [.lit (.bool true)], args := [d1, d2, d3] }
  | _ => none }
def valueTablesRow : OpenClaim := { program := "ytgnfgaioeldagaagreat", sum := "70dc3d9c542857f63d9930e702d3e8e917090e351c2d4576a358f0e8cc383fdc", func := "mullion/mullionlaw12.ValueTables", spec := "valueTables", inPlace := ["internal/bytealg.IndexByteString", "internal/bytealg.abigen_runtime_cmpstring"], unfollowed := true, recurses := true, apart := false }
def ValueTablesSaid : Prop := valueTablesRow.holds Tryz.pinned (OpenSpec.ofChange valueTablesSpec)

/-- ITS FALSE NEIGHBOUR: 'it returns false'. Refute it at one input. -/
def valueTablesWrong : ChangeSpec := { name := "valueTables", fn := fun _ => fun
  | [d1, d2, d3] => { results := [.lit (.bool false)], args := [d1, d2, d3] }
  | _ => none }
def ValueTablesWrongFalsely : Prop := valueTablesRow.holds Tryz.pinned (OpenSpec.ofChange valueTablesWrong)

/- THE SECOND FORM. 'bulk': how many values and letters a reading holds, each counted each time it is reached (what is shared counts as often as it is met; a slice's spare places count too). A statement '..UptoSaid' is the law's where the arguments, and the package variables that the reading takes, are together of bulk at most 1048576: NARROWER than '..Said'. Prove '..Said' where nothing that the law and all that it calls make is longer than what came in: it says more and counts as full. Else prove '..UptoSaid'. A law counts once. -/
mutual
def uptoBulk {H : Type} : DataW H → Nat
  | .lit (.string bytes) => bytes.length + 1
  | .lit _ => 1
  | .nil => 1
  | .ptr d => uptoBulk d + 1
  | .slice elems spare => uptoBulkAll elems + uptoBulkAll spare + 1
  | .agg parts => uptoBulkAll parts + 1
  | .iface _ d => uptoBulk d + 1
  | .map entries => uptoBulkEntries entries + 1
  | .held _ => 1
def uptoBulkAll {H : Type} : List (DataW H) → Nat
  | [] => 0
  | d :: r => uptoBulk d + uptoBulkAll r
def uptoBulkEntries {H : Type} : List (Lit × DataW H) → Nat
  | [] => 0
  | x :: r => uptoBulkEntry x + uptoBulkEntries r
def uptoBulkEntry {H : Type} : Lit × DataW H → Nat
  | (.string bytes, d) => bytes.length + uptoBulk d + 1
  | (_, d) => uptoBulk d + 1
 end
def uptoSmall : (H : Type) → List (DataW H) → Bool := fun _ ds => decide (uptoBulkAll ds ≤ 1048576)
def OpenSpec.upto (s : _root_.Go.ChangeSpec) : _root_.Go.OpenSpec := { _root_.Go.OpenSpec.ofChange s with cond := some uptoSmall }

/-- 'mullionlaw12.ValueTells', WHERE WHAT IT READS IS OF BULK AT MOST 1048576: true; the input reads as it did. -/
def valueTellsUptoRow : OpenClaim := { program := "ytgnfgaioeldagaagreat", sum := "70dc3d9c542857f63d9930e702d3e8e917090e351c2d4576a358f0e8cc383fdc", func := "mullion/mullionlaw12.ValueTells", spec := "valueTells", inPlace := ["internal/bytealg.IndexByteString", "internal/bytealg.abigen_runtime_cmpstring"], unfollowed := true, recurses := true, loops := true, apart := false, narrowed := true }
def ValueTellsUptoSaid : Prop := valueTellsUptoRow.holds Tryz.pinned (OpenSpec.upto valueTellsSpec)

/-- 'mullionlaw12.ValueRules', WHERE WHAT IT READS IS OF BULK AT MOST 1048576: true; the input reads as it did. -/
def valueRulesUptoRow : OpenClaim := { program := "ytgnfgaioeldagaagreat", sum := "70dc3d9c542857f63d9930e702d3e8e917090e351c2d4576a358f0e8cc383fdc", func := "mullion/mullionlaw12.ValueRules", spec := "valueRules", inPlace := ["internal/bytealg.IndexByteString", "internal/bytealg.abigen_runtime_cmpstring"], unfollowed := true, recurses := true, loops := true, apart := false, narrowed := true }
def ValueRulesUptoSaid : Prop := valueRulesUptoRow.holds Tryz.pinned (OpenSpec.upto valueRulesSpec)

/-- 'mullionlaw12.ValueLocal', WHERE WHAT IT READS IS OF BULK AT MOST 1048576: true; the input reads as it did. -/
def valueLocalUptoRow : OpenClaim := { program := "ytgnfgaioeldagaagreat", sum := "70dc3d9c542857f63d9930e702d3e8e917090e351c2d4576a358f0e8cc383fdc", func := "mullion/mullionlaw12.ValueLocal", spec := "valueLocal", inPlace := ["internal/bytealg.IndexByteString", "internal/bytealg.abigen_runtime_cmpstring"], unfollowed := true, recurses := true, loops := true, apart := false, narrowed := true }
def ValueLocalUptoSaid : Prop := valueLocalUptoRow.holds Tryz.pinned (OpenSpec.upto valueLocalSpec)

/-- 'mullionlaw12.ValuePuts', WHERE WHAT IT READS IS OF BULK AT MOST 1048576: true; the input reads as it did. -/
def valuePutsUptoRow : OpenClaim := { program := "ytgnfgaioeldagaagreat", sum := "70dc3d9c542857f63d9930e702d3e8e917090e351c2d4576a358f0e8cc383fdc", func := "mullion/mullionlaw12.ValuePuts", spec := "valuePuts", inPlace := ["internal/bytealg.IndexByteString", "internal/bytealg.abigen_runtime_cmpstring"], unfollowed := true, recurses := true, apart := false, narrowed := true }
def ValuePutsUptoSaid : Prop := valuePutsUptoRow.holds Tryz.pinned (OpenSpec.upto valuePutsSpec)

/-- 'mullionlaw12.ValueTables', WHERE WHAT IT READS IS OF BULK AT MOST 1048576: true; the input reads as it did. -/
def valueTablesUptoRow : OpenClaim := { program := "ytgnfgaioeldagaagreat", sum := "70dc3d9c542857f63d9930e702d3e8e917090e351c2d4576a358f0e8cc383fdc", func := "mullion/mullionlaw12.ValueTables", spec := "valueTables", inPlace := ["internal/bytealg.IndexByteString", "internal/bytealg.abigen_runtime_cmpstring"], unfollowed := true, recurses := true, apart := false, narrowed := true }
def ValueTablesUptoSaid : Prop := valueTablesUptoRow.holds Tryz.pinned (OpenSpec.upto valueTablesSpec)

end Rows
end Go.Proofs.YtgnfgaioeldagaaGreat
