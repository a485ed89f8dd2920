/-
  No cell of these rows narrows 'for every input' (looked for: loops, veiled, ifaces, maps, wideKeys, modest, calm, conditions, laid).
  DERIVED. THE GIVEN ROWS OF THIS SEAT. 7 by the template 'for every input the law returns true; each argument reads behind the call as it read before'; 0 by the template 'total and deterministic' (their statements: YtlgjjcmljmjenaaGreatTotals.lean).
  GIVEN WITH THE SEED: the statements are not yours to turn. If you find one false, say at which input.
  Laid BY PROGRAM, IN A SANDBOX (cutbox-rows.mjs): the forced cells as the released guide's own fill.sh prints them over the translation 778b5e7a6729c460… (all of the seat's roots in one cut). By AI agents, Wed Nov 11 2026. No macro, syntax, notation, axiom, sorry.
-/
import Derived.Test.YtlgjjcmljmjenaaGreatChecked
import GoSem.Claim
import GoSem.ClaimJoined
import GoSem.ClaimMapViews
import Derived.JoinedTies
import Derived.KernelRfl
namespace Go.Proofs.YtlgjjcmljmjenaaGreat
/- THE CELL 'sum', in the pinned program and in every row, IS THE sha256 OF THE DUMP (.gsa) THAT YtlgjjcmljmjenaaGreatProg.lean LOADS. Nothing in Lean hashes anything: it is a label: what it is worth is what the hold of that sum in a sandbox is worth. -/
noncomputable def Tryz.pinned : Pinned := { name := "ytlgjjcmljmjenaagreat", sum := "778b5e7a6729c4608f9057e17eff316812f823cd182defc5083e8b8f1b69c13a", checked := Tryz.checked }
namespace Rows
def none {H : Type} : Left H := { results := [], args := [] }

/-- 'mullionlaw22.LiaSolves': WHATEVER THE INPUT: true; the input reads as it did. -/
def liaSolvesSpec : ChangeSpec := { name := "liaSolves", fn := fun _ => fun
  | [d1, d2, d3] => { results := [.lit (.bool true)], args := [d1, d2, d3] }
  | _ => none }
def liaSolvesRow : OpenClaim := { program := "ytlgjjcmljmjenaagreat", sum := "778b5e7a6729c4608f9057e17eff316812f823cd182defc5083e8b8f1b69c13a", func := "mullion/mullionlaw22.LiaSolves", spec := "liaSolves", unfollowed := true, recurses := true, apart := false }
def LiaSolvesSaid : Prop := liaSolvesRow.holds Tryz.pinned (OpenSpec.ofChange liaSolvesSpec)

/-- ITS FALSE NEIGHBOUR: 'it returns false'. Refute it at one input. -/
def liaSolvesWrong : ChangeSpec := { name := "liaSolves", fn := fun _ => fun
  | [d1, d2, d3] => { results := [.lit (.bool false)], args := [d1, d2, d3] }
  | _ => none }
def LiaSolvesWrongFalsely : Prop := liaSolvesRow.holds Tryz.pinned (OpenSpec.ofChange liaSolvesWrong)

/-- 'mullionlaw22.LiaCores': WHATEVER THE INPUT: true; the input reads as it did. -/
def liaCoresSpec : ChangeSpec := { name := "liaCores", fn := fun _ => fun
  | [d1, d2] => { results := [.lit (.bool true)], args := [d1, d2] }
  | _ => none }
def liaCoresRow : OpenClaim := { program := "ytlgjjcmljmjenaagreat", sum := "778b5e7a6729c4608f9057e17eff316812f823cd182defc5083e8b8f1b69c13a", func := "mullion/mullionlaw22.LiaCores", spec := "liaCores", unfollowed := true, recurses := true, apart := false }
def LiaCoresSaid : Prop := liaCoresRow.holds Tryz.pinned (OpenSpec.ofChange liaCoresSpec)

/-- ITS FALSE NEIGHBOUR: 'it returns false'. Refute it at one input. -/
def liaCoresWrong : ChangeSpec := { name := "liaCores", fn := fun _ => fun
  | [d1, d2] => { results := [.lit (.bool false)], args := [d1, d2] }
  | _ => none }
def LiaCoresWrongFalsely : Prop := liaCoresRow.holds Tryz.pinned (OpenSpec.ofChange liaCoresWrong)

/-- 'mullionlaw22.LiaMany': WHATEVER THE INPUT: true; the input reads as it did. -/
def liaManySpec : ChangeSpec := { name := "liaMany", fn := fun _ => fun
  | [d1, d2, d3] => { results := [.lit (.bool true)], args := [d1, d2, d3] }
  | _ => none }
def liaManyRow : OpenClaim := { program := "ytlgjjcmljmjenaagreat", sum := "778b5e7a6729c4608f9057e17eff316812f823cd182defc5083e8b8f1b69c13a", func := "mullion/mullionlaw22.LiaMany", spec := "liaMany", unfollowed := true, recurses := true, apart := false }
def LiaManySaid : Prop := liaManyRow.holds Tryz.pinned (OpenSpec.ofChange liaManySpec)

/-- ITS FALSE NEIGHBOUR: 'it returns false'. Refute it at one input. -/
def liaManyWrong : ChangeSpec := { name := "liaMany", fn := fun _ => fun
  | [d1, d2, d3] => { results := [.lit (.bool false)], args := [d1, d2, d3] }
  | _ => none }
def LiaManyWrongFalsely : Prop := liaManyRow.holds Tryz.pinned (OpenSpec.ofChange liaManyWrong)

/-- 'mullionlaw22.LiaEquations': WHATEVER THE INPUT: true; the input reads as it did. -/
def liaEquationsSpec : ChangeSpec := { name := "liaEquations", fn := fun _ => fun
  | [d1, d2, d3] => { results := [.lit (.bool true)], args := [d1, d2, d3] }
  | _ => none }
def liaEquationsRow : OpenClaim := { program := "ytlgjjcmljmjenaagreat", sum := "778b5e7a6729c4608f9057e17eff316812f823cd182defc5083e8b8f1b69c13a", func := "mullion/mullionlaw22.LiaEquations", spec := "liaEquations", unfollowed := true, recurses := true, apart := false }
def LiaEquationsSaid : Prop := liaEquationsRow.holds Tryz.pinned (OpenSpec.ofChange liaEquationsSpec)

/-- ITS FALSE NEIGHBOUR: 'it returns false'. Refute it at one input. -/
def liaEquationsWrong : ChangeSpec := { name := "liaEquations", fn := fun _ => fun
  | [d1, d2, d3] => { results := [.lit (.bool false)], args := [d1, d2, d3] }
  | _ => none }
def LiaEquationsWrongFalsely : Prop := liaEquationsRow.holds Tryz.pinned (OpenSpec.ofChange liaEquationsWrong)

/-- 'mullionlaw22.LiaBoxes': WHATEVER THE INPUT: true; the input reads as it did. -/
def liaBoxesSpec : ChangeSpec := { name := "liaBoxes", fn := fun _ => fun
  | [d1, d2, d3] => { results := [.lit (.bool true)], args := [d1, d2, d3] }
  | _ => none }
def liaBoxesRow : OpenClaim := { program := "ytlgjjcmljmjenaagreat", sum := "778b5e7a6729c4608f9057e17eff316812f823cd182defc5083e8b8f1b69c13a", func := "mullion/mullionlaw22.LiaBoxes", spec := "liaBoxes", unfollowed := true, recurses := true, apart := false }
def LiaBoxesSaid : Prop := liaBoxesRow.holds Tryz.pinned (OpenSpec.ofChange liaBoxesSpec)

/-- ITS FALSE NEIGHBOUR: 'it returns false'. Refute it at one input. -/
def liaBoxesWrong : ChangeSpec := { name := "liaBoxes", fn := fun _ => fun
  | [d1, d2, d3] => { results := [.lit (.bool false)], args := [d1, d2, d3] }
  | _ => none }
def LiaBoxesWrongFalsely : Prop := liaBoxesRow.holds Tryz.pinned (OpenSpec.ofChange liaBoxesWrong)

/-- 'mullionlaw22.LiaThin': WHATEVER THE INPUT: true; the input reads as it did. -/
def liaThinSpec : ChangeSpec := { name := "liaThin", fn := fun _ => fun
  | [d1, d2] => { results := [.lit (.bool true)], args := [d1, d2] }
  | _ => none }
def liaThinRow : OpenClaim := { program := "ytlgjjcmljmjenaagreat", sum := "778b5e7a6729c4608f9057e17eff316812f823cd182defc5083e8b8f1b69c13a", func := "mullion/mullionlaw22.LiaThin", spec := "liaThin", unfollowed := true, recurses := true, apart := false }
def LiaThinSaid : Prop := liaThinRow.holds Tryz.pinned (OpenSpec.ofChange liaThinSpec)

/-- ITS FALSE NEIGHBOUR: 'it returns false'. Refute it at one input. -/
def liaThinWrong : ChangeSpec := { name := "liaThin", fn := fun _ => fun
  | [d1, d2] => { results := [.lit (.bool false)], args := [d1, d2] }
  | _ => none }
def LiaThinWrongFalsely : Prop := liaThinRow.holds Tryz.pinned (OpenSpec.ofChange liaThinWrong)

/-- 'mullionlaw22.LiaCoins': WHATEVER THE INPUT: true; the input reads as it did. -/
def liaCoinsSpec : ChangeSpec := { name := "liaCoins", fn := fun _ => fun
  | [d1, d2, d3] => { results := [.lit (.bool true)], args := [d1, d2, d3] }
  | _ => none }
def liaCoinsRow : OpenClaim := { program := "ytlgjjcmljmjenaagreat", sum := "778b5e7a6729c4608f9057e17eff316812f823cd182defc5083e8b8f1b69c13a", func := "mullion/mullionlaw22.LiaCoins", spec := "liaCoins", unfollowed := true, recurses := true, apart := false }
def LiaCoinsSaid : Prop := liaCoinsRow.holds Tryz.pinned (OpenSpec.ofChange liaCoinsSpec)

/-- ITS FALSE NEIGHBOUR: 'it returns false'. Refute it at one input. -/
def liaCoinsWrong : ChangeSpec := { name := "liaCoins", fn := fun _ => fun
  | [d1, d2, d3] => { results := [.lit (.bool false)], args := [d1, d2, d3] }
  | _ => none }
def LiaCoinsWrongFalsely : Prop := liaCoinsRow.holds Tryz.pinned (OpenSpec.ofChange liaCoinsWrong)

/- THE SECOND FORM. 'bulk': how many values and letters a reading holds, each counted each time it is reached (what is shared counts as often as it is met; a slice's spare places count too). A statement '..UptoSaid' is the law's where the arguments, and the package variables that the reading takes, are together of bulk at most 1048576: NARROWER than '..Said'. Prove '..Said' where nothing that the law and all that it calls make is longer than what came in: it says more and counts as full. Else prove '..UptoSaid'. A law counts once. -/
mutual
def uptoBulk {H : Type} : DataW H → Nat
  | .lit (.string bytes) => bytes.length + 1
  | .lit _ => 1
  | .nil => 1
  | .ptr d => uptoBulk d + 1
  | .slice elems spare => uptoBulkAll elems + uptoBulkAll spare + 1
  | .agg parts => uptoBulkAll parts + 1
  | .iface _ d => uptoBulk d + 1
  | .map entries => uptoBulkEntries entries + 1
  | .held _ => 1
def uptoBulkAll {H : Type} : List (DataW H) → Nat
  | [] => 0
  | d :: r => uptoBulk d + uptoBulkAll r
def uptoBulkEntries {H : Type} : List (Lit × DataW H) → Nat
  | [] => 0
  | x :: r => uptoBulkEntry x + uptoBulkEntries r
def uptoBulkEntry {H : Type} : Lit × DataW H → Nat
  | (.string bytes, d) => bytes.length + uptoBulk d + 1
  | (_, d) => uptoBulk d + 1
 end
def uptoSmall : (H : Type) → List (DataW H) → Bool := fun _ ds => decide (uptoBulkAll ds ≤ 1048576)
def OpenSpec.upto (s : _root_.Go.ChangeSpec) : _root_.Go.OpenSpec := { _root_.Go.OpenSpec.ofChange s with cond := some uptoSmall }

/-- 'mullionlaw22.LiaSolves', WHERE WHAT IT READS IS OF BULK AT MOST 1048576: true; the input reads as it did. -/
def liaSolvesUptoRow : OpenClaim := { program := "ytlgjjcmljmjenaagreat", sum := "778b5e7a6729c4608f9057e17eff316812f823cd182defc5083e8b8f1b69c13a", func := "mullion/mullionlaw22.LiaSolves", spec := "liaSolves", unfollowed := true, recurses := true, apart := false, narrowed := true }
def LiaSolvesUptoSaid : Prop := liaSolvesUptoRow.holds Tryz.pinned (OpenSpec.upto liaSolvesSpec)

/-- 'mullionlaw22.LiaCores', WHERE WHAT IT READS IS OF BULK AT MOST 1048576: true; the input reads as it did. -/
def liaCoresUptoRow : OpenClaim := { program := "ytlgjjcmljmjenaagreat", sum := "778b5e7a6729c4608f9057e17eff316812f823cd182defc5083e8b8f1b69c13a", func := "mullion/mullionlaw22.LiaCores", spec := "liaCores", unfollowed := true, recurses := true, apart := false, narrowed := true }
def LiaCoresUptoSaid : Prop := liaCoresUptoRow.holds Tryz.pinned (OpenSpec.upto liaCoresSpec)

/-- 'mullionlaw22.LiaMany', WHERE WHAT IT READS IS OF BULK AT MOST 1048576: true; the input reads as it did. -/
def liaManyUptoRow : OpenClaim := { program := "ytlgjjcmljmjenaagreat", sum := "778b5e7a6729c4608f9057e17eff316812f823cd182defc5083e8b8f1b69c13a", func := "mullion/mullionlaw22.LiaMany", spec := "liaMany", unfollowed := true, recurses := true, apart := false, narrowed := true }
def LiaManyUptoSaid : Prop := liaManyUptoRow.holds Tryz.pinned (OpenSpec.upto liaManySpec)

/-- 'mullionlaw22.LiaEquations', WHERE WHAT IT READS IS OF BULK AT MOST 1048576: true; the input reads as it did. -/
def liaEquationsUptoRow : OpenClaim := { program := "ytlgjjcmljmjenaagreat", sum := "778b5e7a6729c4608f9057e17eff316812f823cd182defc5083e8b8f1b69c13a", func := "mullion/mullionlaw22.LiaEquations", spec := "liaEquations", unfollowed := true, recurses := true, apart := false, narrowed := true }
def LiaEquationsUptoSaid : Prop := liaEquationsUptoRow.holds Tryz.pinned (OpenSpec.upto liaEquationsSpec)

/-- 'mullionlaw22.LiaBoxes', WHERE WHAT IT READS IS OF BULK AT MOST 1048576: true; the input reads as it did. -/
def liaBoxesUptoRow : OpenClaim := { program := "ytlgjjcmljmjenaagreat", sum := "778b5e7a6729c4608f9057e17eff316812f823cd182defc5083e8b8f1b69c13a", func := "mullion/mullionlaw22.LiaBoxes", spec := "liaBoxes", unfollowed := true, recurses := true, apart := false, narrowed := true }
def LiaBoxesUptoSaid : Prop := liaBoxesUptoRow.holds Tryz.pinned (OpenSpec.upto liaBoxesSpec)

/-- 'mullionlaw22.LiaThin', WHERE WHAT IT READS IS OF BULK AT MOST 1048576: true; the input reads as it did. -/
def liaThinUptoRow : OpenClaim := { program := "ytlgjjcmljmjenaagreat", sum := "778b5e7a6729c4608f9057e17eff316812f823cd182defc5083e8b8f1b69c13a", func := "mullion/mullionlaw22.LiaThin", spec := "liaThin", unfollowed := true, recurses := true, apart := false, narrowed := true }
def LiaThinUptoSaid : Prop := liaThinUptoRow.holds Tryz.pinned (OpenSpec.upto liaThinSpec)

/-- 'mullionlaw22.LiaCoins', WHERE WHAT IT READS IS OF BULK AT MOST 1048576: true; the input reads as it did. -/
def liaCoinsUptoRow : OpenClaim := { program := "ytlgjjcmljmjenaagreat", sum := "778b5e7a6729c4608f9057e17eff316812f823cd182defc5083e8b8f1b69c13a", func := "mullion/mullionlaw22.LiaCoins", spec := "liaCoins", unfollowed := true, recurses := true, apart := false, narrowed := true }
def LiaCoinsUptoSaid : Prop := liaCoinsUptoRow.holds Tryz.pinned (OpenSpec.upto liaCoinsSpec)

end Rows
end Go.Proofs.YtlgjjcmljmjenaaGreat
