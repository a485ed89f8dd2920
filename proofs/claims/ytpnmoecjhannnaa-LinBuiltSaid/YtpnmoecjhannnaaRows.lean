/-
  No cell of these rows narrows 'for every input' (looked for: loops, veiled, ifaces, maps, wideKeys, modest, calm, conditions, laid).
  DERIVED. THE GIVEN ROWS OF THIS SEAT. 11 by the template 'for every input the law returns true; each argument reads behind the call as it read before'; 0 by the template 'total and deterministic' (their statements: YtpnmoecjhannnaaTotals.lean).
  GIVEN WITH THE SEED: the statements are not yours to turn. If you find one false, say at which input.
  Laid BY PROGRAM, IN A SANDBOX (cutbox-rows.mjs): the forced cells as the released guide's own fill.sh prints them over the translation 912efa66c4b6b370… (all of the seat's roots in one cut). By AI agents, Wed Nov 11 2026. No macro, syntax, notation, axiom, sorry.
-/
import Derived.Test.YtpnmoecjhannnaaChecked
import GoSem.Claim
import GoSem.ClaimJoined
import GoSem.ClaimMapViews
import Derived.JoinedTies
import Derived.KernelRfl
namespace Go.Proofs.Ytpnmoecjhannnaa
/- THE CELL 'sum', in the pinned program and in every row, IS THE sha256 OF THE DUMP (.gsa) THAT YtpnmoecjhannnaaProg.lean LOADS. Nothing in Lean hashes anything: it is a label: what it is worth is what the hold of that sum in a sandbox is worth. -/
noncomputable def Try.pinned : Pinned := { name := "ytpnmoecjhannnaa", sum := "912efa66c4b6b370ebb80b87a9971baea284b5328da623424d837f65f20cff74", checked := Try.checked }
namespace Rows
def none {H : Type} : Left H := { results := [], args := [] }

/-- 'mullionlaw5.RatShort': WHATEVER THE INPUT: true; the input reads as it did. -/
def ratShortSpec : ChangeSpec := { name := "ratShort", fn := fun _ => fun
  | [d1, d2, d3] => { results := [.lit (.bool true)], args := [d1, d2, d3] }
  | _ => none }
def ratShortRow : OpenClaim := { program := "ytpnmoecjhannnaa", sum := "912efa66c4b6b370ebb80b87a9971baea284b5328da623424d837f65f20cff74", func := "mullion/mullionlaw5.RatShort", spec := "ratShort", apart := false }
def RatShortSaid : Prop := ratShortRow.holds Try.pinned (OpenSpec.ofChange ratShortSpec)

/-- ITS FALSE NEIGHBOUR: 'it returns false'. Refute it at one input. -/
def ratShortWrong : ChangeSpec := { name := "ratShort", fn := fun _ => fun
  | [d1, d2, d3] => { results := [.lit (.bool false)], args := [d1, d2, d3] }
  | _ => none }
def RatShortWrongFalsely : Prop := ratShortRow.holds Try.pinned (OpenSpec.ofChange ratShortWrong)

/-- 'mullionlaw5.RatBetween': WHATEVER THE INPUT: true; the input reads as it did. -/
def ratBetweenSpec : ChangeSpec := { name := "ratBetween", fn := fun _ => fun
  | [d1, d2] => { results := [.lit (.bool true)], args := [d1, d2] }
  | _ => none }
def ratBetweenRow : OpenClaim := { program := "ytpnmoecjhannnaa", sum := "912efa66c4b6b370ebb80b87a9971baea284b5328da623424d837f65f20cff74", func := "mullion/mullionlaw5.RatBetween", spec := "ratBetween", apart := false }
def RatBetweenSaid : Prop := ratBetweenRow.holds Try.pinned (OpenSpec.ofChange ratBetweenSpec)

/-- ITS FALSE NEIGHBOUR: 'it returns false'. Refute it at one input. -/
def ratBetweenWrong : ChangeSpec := { name := "ratBetween", fn := fun _ => fun
  | [d1, d2] => { results := [.lit (.bool false)], args := [d1, d2] }
  | _ => none }
def RatBetweenWrongFalsely : Prop := ratBetweenRow.holds Try.pinned (OpenSpec.ofChange ratBetweenWrong)

/-- 'mullionlaw5.RatRules': WHATEVER THE INPUT: true; the input reads as it did. -/
def ratRulesSpec : ChangeSpec := { name := "ratRules", fn := fun _ => fun
  | [d1, d2, d3] => { results := [.lit (.bool true)], args := [d1, d2, d3] }
  | _ => none }
def ratRulesRow : OpenClaim := { program := "ytpnmoecjhannnaa", sum := "912efa66c4b6b370ebb80b87a9971baea284b5328da623424d837f65f20cff74", func := "mullion/mullionlaw5.RatRules", spec := "ratRules", apart := false }
def RatRulesSaid : Prop := ratRulesRow.holds Try.pinned (OpenSpec.ofChange ratRulesSpec)

/-- ITS FALSE NEIGHBOUR: 'it returns false'. Refute it at one input. -/
def ratRulesWrong : ChangeSpec := { name := "ratRules", fn := fun _ => fun
  | [d1, d2, d3] => { results := [.lit (.bool false)], args := [d1, d2, d3] }
  | _ => none }
def RatRulesWrongFalsely : Prop := ratRulesRow.holds Try.pinned (OpenSpec.ofChange ratRulesWrong)

/-- 'mullionlaw6.LinTells': WHATEVER THE INPUT: true; the input reads as it did. -/
def linTellsSpec : ChangeSpec := { name := "linTells", fn := fun _ => fun
  | [d1, d2, d3, d4, d5] => { results := [.lit (.bool true)], args := [d1, d2, d3, d4, d5] }
  | _ => none }
def linTellsRow : OpenClaim := { program := "ytpnmoecjhannnaa", sum := "912efa66c4b6b370ebb80b87a9971baea284b5328da623424d837f65f20cff74", func := "mullion/mullionlaw6.LinTells", spec := "linTells", unfollowed := true, recurses := true, apart := false }
def LinTellsSaid : Prop := linTellsRow.holds Try.pinned (OpenSpec.ofChange linTellsSpec)

/-- ITS FALSE NEIGHBOUR: 'it returns false'. Refute it at one input. -/
def linTellsWrong : ChangeSpec := { name := "linTells", fn := fun _ => fun
  | [d1, d2, d3, d4, d5] => { results := [.lit (.bool false)], args := [d1, d2, d3, d4, d5] }
  | _ => none }
def LinTellsWrongFalsely : Prop := linTellsRow.holds Try.pinned (OpenSpec.ofChange linTellsWrong)

/-- 'mullionlaw6.LinValues': WHATEVER THE INPUT: true; the input reads as it did. -/
def linValuesSpec : ChangeSpec := { name := "linValues", fn := fun _ => fun
  | [d1, d2, d3, d4, d5] => { results := [.lit (.bool true)], args := [d1, d2, d3, d4, d5] }
  | _ => none }
def linValuesRow : OpenClaim := { program := "ytpnmoecjhannnaa", sum := "912efa66c4b6b370ebb80b87a9971baea284b5328da623424d837f65f20cff74", func := "mullion/mullionlaw6.LinValues", spec := "linValues", unfollowed := true, recurses := true, apart := false }
def LinValuesSaid : Prop := linValuesRow.holds Try.pinned (OpenSpec.ofChange linValuesSpec)

/-- ITS FALSE NEIGHBOUR: 'it returns false'. Refute it at one input. -/
def linValuesWrong : ChangeSpec := { name := "linValues", fn := fun _ => fun
  | [d1, d2, d3, d4, d5] => { results := [.lit (.bool false)], args := [d1, d2, d3, d4, d5] }
  | _ => none }
def LinValuesWrongFalsely : Prop := linValuesRow.holds Try.pinned (OpenSpec.ofChange linValuesWrong)

/-- 'mullionlaw6.LinBuilt': WHATEVER THE INPUT: true; the input reads as it did. -/
def linBuiltSpec : ChangeSpec := { name := "linBuilt", fn := fun _ => fun
  | [d1, d2, d3] => { results := [.lit (.bool true)], args := [d1, d2, d3] }
  | _ => none }
def linBuiltRow : OpenClaim := { program := "ytpnmoecjhannnaa", sum := "912efa66c4b6b370ebb80b87a9971baea284b5328da623424d837f65f20cff74", func := "mullion/mullionlaw6.LinBuilt", spec := "linBuilt", unfollowed := true, recurses := true, apart := false }
def LinBuiltSaid : Prop := linBuiltRow.holds Try.pinned (OpenSpec.ofChange linBuiltSpec)

/-- ITS FALSE NEIGHBOUR: 'it returns false'. Refute it at one input. -/
def linBuiltWrong : ChangeSpec := { name := "linBuilt", fn := fun _ => fun
  | [d1, d2, d3] => { results := [.lit (.bool false)], args := [d1, d2, d3] }
  | _ => none }
def LinBuiltWrongFalsely : Prop := linBuiltRow.holds Try.pinned (OpenSpec.ofChange linBuiltWrong)

/-- 'mullionlaw6.LinGone': WHATEVER THE INPUT: true; the input reads as it did. -/
def linGoneSpec : ChangeSpec := { name := "linGone", fn := fun _ => fun
  | [d1, d2, d3] => { results := [.lit (.bool true)], args := [d1, d2, d3] }
  | _ => none }
def linGoneRow : OpenClaim := { program := "ytpnmoecjhannnaa", sum := "912efa66c4b6b370ebb80b87a9971baea284b5328da623424d837f65f20cff74", func := "mullion/mullionlaw6.LinGone", spec := "linGone", unfollowed := true, recurses := true, apart := false }
def LinGoneSaid : Prop := linGoneRow.holds Try.pinned (OpenSpec.ofChange linGoneSpec)

/-- ITS FALSE NEIGHBOUR: 'it returns false'. Refute it at one input. -/
def linGoneWrong : ChangeSpec := { name := "linGone", fn := fun _ => fun
  | [d1, d2, d3] => { results := [.lit (.bool false)], args := [d1, d2, d3] }
  | _ => none }
def LinGoneWrongFalsely : Prop := linGoneRow.holds Try.pinned (OpenSpec.ofChange linGoneWrong)

/-- 'mullionlaw7.BelowTells': WHATEVER THE INPUT: true; the input reads as it did. -/
def belowTellsSpec : ChangeSpec := { name := "belowTells", fn := fun _ => fun
  | [d1, d2, d3] => { results := [.lit (.bool true)], args := [d1, d2, d3] }
  | _ => none }
def belowTellsRow : OpenClaim := { program := "ytpnmoecjhannnaa", sum := "912efa66c4b6b370ebb80b87a9971baea284b5328da623424d837f65f20cff74", func := "mullion/mullionlaw7.BelowTells", spec := "belowTells", apart := false }
def BelowTellsSaid : Prop := belowTellsRow.holds Try.pinned (OpenSpec.ofChange belowTellsSpec)

/-- ITS FALSE NEIGHBOUR: 'it returns false'. Refute it at one input. -/
def belowTellsWrong : ChangeSpec := { name := "belowTells", fn := fun _ => fun
  | [d1, d2, d3] => { results := [.lit (.bool false)], args := [d1, d2, d3] }
  | _ => none }
def BelowTellsWrongFalsely : Prop := belowTellsRow.holds Try.pinned (OpenSpec.ofChange belowTellsWrong)

/-- 'mullionlaw7.BelowSame': WHATEVER THE INPUT: true; the input reads as it did. -/
def belowSameSpec : ChangeSpec := { name := "belowSame", fn := fun _ => fun
  | [d1, d2] => { results := [.lit (.bool true)], args := [d1, d2] }
  | _ => none }
def belowSameRow : OpenClaim := { program := "ytpnmoecjhannnaa", sum := "912efa66c4b6b370ebb80b87a9971baea284b5328da623424d837f65f20cff74", func := "mullion/mullionlaw7.BelowSame", spec := "belowSame", apart := false }
def BelowSameSaid : Prop := belowSameRow.holds Try.pinned (OpenSpec.ofChange belowSameSpec)

/-- ITS FALSE NEIGHBOUR: 'it returns false'. Refute it at one input. -/
def belowSameWrong : ChangeSpec := { name := "belowSame", fn := fun _ => fun
  | [d1, d2] => { results := [.lit (.bool false)], args := [d1, d2] }
  | _ => none }
def BelowSameWrongFalsely : Prop := belowSameRow.holds Try.pinned (OpenSpec.ofChange belowSameWrong)

/-- 'mullionlaw7.BelowRounds': WHATEVER THE INPUT: true; the input reads as it did. -/
def belowRoundsSpec : ChangeSpec := { name := "belowRounds", fn := fun _ => fun
  | [d1, d2] => { results := [.lit (.bool true)], args := [d1, d2] }
  | _ => none }
def belowRoundsRow : OpenClaim := { program := "ytpnmoecjhannnaa", sum := "912efa66c4b6b370ebb80b87a9971baea284b5328da623424d837f65f20cff74", func := "mullion/mullionlaw7.BelowRounds", spec := "belowRounds", apart := false }
def BelowRoundsSaid : Prop := belowRoundsRow.holds Try.pinned (OpenSpec.ofChange belowRoundsSpec)

/-- ITS FALSE NEIGHBOUR: 'it returns false'. Refute it at one input. -/
def belowRoundsWrong : ChangeSpec := { name := "belowRounds", fn := fun _ => fun
  | [d1, d2] => { results := [.lit (.bool false)], args := [d1, d2] }
  | _ => none }
def BelowRoundsWrongFalsely : Prop := belowRoundsRow.holds Try.pinned (OpenSpec.ofChange belowRoundsWrong)

/-- 'mullionlaw7.BelowBoth': WHATEVER THE INPUT: true; the input reads as it did. -/
def belowBothSpec : ChangeSpec := { name := "belowBoth", fn := fun _ => fun
  | [d1, d2] => { results := [.lit (.bool true)], args := [d1, d2] }
  | _ => none }
def belowBothRow : OpenClaim := { program := "ytpnmoecjhannnaa", sum := "912efa66c4b6b370ebb80b87a9971baea284b5328da623424d837f65f20cff74", func := "mullion/mullionlaw7.BelowBoth", spec := "belowBoth", apart := false }
def BelowBothSaid : Prop := belowBothRow.holds Try.pinned (OpenSpec.ofChange belowBothSpec)

/-- ITS FALSE NEIGHBOUR: 'it returns false'. Refute it at one input. -/
def belowBothWrong : ChangeSpec := { name := "belowBoth", fn := fun _ => fun
  | [d1, d2] => { results := [.lit (.bool false)], args := [d1, d2] }
  | _ => none }
def BelowBothWrongFalsely : Prop := belowBothRow.holds Try.pinned (OpenSpec.ofChange belowBothWrong)

/- THE SECOND FORM. 'bulk': how many values and letters a reading holds, each counted each time it is reached (what is shared counts as often as it is met; a slice's spare places count too). A statement '..UptoSaid' is the law's where the arguments, and the package variables that the reading takes, are together of bulk at most 1048576: NARROWER than '..Said'. Prove '..Said' where nothing that the law and all that it calls make is longer than what came in: it says more and counts as full. Else prove '..UptoSaid'. A law counts once. -/
mutual
def uptoBulk {H : Type} : DataW H → Nat
  | .lit (.string bytes) => bytes.length + 1
  | .lit _ => 1
  | .nil => 1
  | .ptr d => uptoBulk d + 1
  | .slice elems spare => uptoBulkAll elems + uptoBulkAll spare + 1
  | .agg parts => uptoBulkAll parts + 1
  | .iface _ d => uptoBulk d + 1
  | .map entries => uptoBulkEntries entries + 1
  | .held _ => 1
def uptoBulkAll {H : Type} : List (DataW H) → Nat
  | [] => 0
  | d :: r => uptoBulk d + uptoBulkAll r
def uptoBulkEntries {H : Type} : List (Lit × DataW H) → Nat
  | [] => 0
  | x :: r => uptoBulkEntry x + uptoBulkEntries r
def uptoBulkEntry {H : Type} : Lit × DataW H → Nat
  | (.string bytes, d) => bytes.length + uptoBulk d + 1
  | (_, d) => uptoBulk d + 1
 end
def uptoSmall : (H : Type) → List (DataW H) → Bool := fun _ ds => decide (uptoBulkAll ds ≤ 1048576)
def OpenSpec.upto (s : _root_.Go.ChangeSpec) : _root_.Go.OpenSpec := { _root_.Go.OpenSpec.ofChange s with cond := some uptoSmall }

/-- 'mullionlaw5.RatShort', WHERE WHAT IT READS IS OF BULK AT MOST 1048576: true; the input reads as it did. -/
def ratShortUptoRow : OpenClaim := { program := "ytpnmoecjhannnaa", sum := "912efa66c4b6b370ebb80b87a9971baea284b5328da623424d837f65f20cff74", func := "mullion/mullionlaw5.RatShort", spec := "ratShort", apart := false, narrowed := true }
def RatShortUptoSaid : Prop := ratShortUptoRow.holds Try.pinned (OpenSpec.upto ratShortSpec)

/-- 'mullionlaw5.RatBetween', WHERE WHAT IT READS IS OF BULK AT MOST 1048576: true; the input reads as it did. -/
def ratBetweenUptoRow : OpenClaim := { program := "ytpnmoecjhannnaa", sum := "912efa66c4b6b370ebb80b87a9971baea284b5328da623424d837f65f20cff74", func := "mullion/mullionlaw5.RatBetween", spec := "ratBetween", apart := false, narrowed := true }
def RatBetweenUptoSaid : Prop := ratBetweenUptoRow.holds Try.pinned (OpenSpec.upto ratBetweenSpec)

/-- 'mullionlaw5.RatRules', WHERE WHAT IT READS IS OF BULK AT MOST 1048576: true; the input reads as it did. -/
def ratRulesUptoRow : OpenClaim := { program := "ytpnmoecjhannnaa", sum := "912efa66c4b6b370ebb80b87a9971baea284b5328da623424d837f65f20cff74", func := "mullion/mullionlaw5.RatRules", spec := "ratRules", apart := false, narrowed := true }
def RatRulesUptoSaid : Prop := ratRulesUptoRow.holds Try.pinned (OpenSpec.upto ratRulesSpec)

/-- 'mullionlaw6.LinTells', WHERE WHAT IT READS IS OF BULK AT MOST 1048576: true; the input reads as it did. -/
def linTellsUptoRow : OpenClaim := { program := "ytpnmoecjhannnaa", sum := "912efa66c4b6b370ebb80b87a9971baea284b5328da623424d837f65f20cff74", func := "mullion/mullionlaw6.LinTells", spec := "linTells", unfollowed := true, recurses := true, apart := false, narrowed := true }
def LinTellsUptoSaid : Prop := linTellsUptoRow.holds Try.pinned (OpenSpec.upto linTellsSpec)

/-- 'mullionlaw6.LinValues', WHERE WHAT IT READS IS OF BULK AT MOST 1048576: true; the input reads as it did. -/
def linValuesUptoRow : OpenClaim := { program := "ytpnmoecjhannnaa", sum := "912efa66c4b6b370ebb80b87a9971baea284b5328da623424d837f65f20cff74", func := "mullion/mullionlaw6.LinValues", spec := "linValues", unfollowed := true, recurses := true, apart := false, narrowed := true }
def LinValuesUptoSaid : Prop := linValuesUptoRow.holds Try.pinned (OpenSpec.upto linValuesSpec)

/-- 'mullionlaw6.LinBuilt', WHERE WHAT IT READS IS OF BULK AT MOST 1048576: true; the input reads as it did. -/
def linBuiltUptoRow : OpenClaim := { program := "ytpnmoecjhannnaa", sum := "912efa66c4b6b370ebb80b87a9971baea284b5328da623424d837f65f20cff74", func := "mullion/mullionlaw6.LinBuilt", spec := "linBuilt", unfollowed := true, recurses := true, apart := false, narrowed := true }
def LinBuiltUptoSaid : Prop := linBuiltUptoRow.holds Try.pinned (OpenSpec.upto linBuiltSpec)

/-- 'mullionlaw6.LinGone', WHERE WHAT IT READS IS OF BULK AT MOST 1048576: true; the input reads as it did. -/
def linGoneUptoRow : OpenClaim := { program := "ytpnmoecjhannnaa", sum := "912efa66c4b6b370ebb80b87a9971baea284b5328da623424d837f65f20cff74", func := "mullion/mullionlaw6.LinGone", spec := "linGone", unfollowed := true, recurses := true, apart := false, narrowed := true }
def LinGoneUptoSaid : Prop := linGoneUptoRow.holds Try.pinned (OpenSpec.upto linGoneSpec)

/-- 'mullionlaw7.BelowTells', WHERE WHAT IT READS IS OF BULK AT MOST 1048576: true; the input reads as it did. -/
def belowTellsUptoRow : OpenClaim := { program := "ytpnmoecjhannnaa", sum := "912efa66c4b6b370ebb80b87a9971baea284b5328da623424d837f65f20cff74", func := "mullion/mullionlaw7.BelowTells", spec := "belowTells", apart := false, narrowed := true }
def BelowTellsUptoSaid : Prop := belowTellsUptoRow.holds Try.pinned (OpenSpec.upto belowTellsSpec)

/-- 'mullionlaw7.BelowSame', WHERE WHAT IT READS IS OF BULK AT MOST 1048576: true; the input reads as it did. -/
def belowSameUptoRow : OpenClaim := { program := "ytpnmoecjhannnaa", sum := "912efa66c4b6b370ebb80b87a9971baea284b5328da623424d837f65f20cff74", func := "mullion/mullionlaw7.BelowSame", spec := "belowSame", apart := false, narrowed := true }
def BelowSameUptoSaid : Prop := belowSameUptoRow.holds Try.pinned (OpenSpec.upto belowSameSpec)

/-- 'mullionlaw7.BelowRounds', WHERE WHAT IT READS IS OF BULK AT MOST 1048576: true; the input reads as it did. -/
def belowRoundsUptoRow : OpenClaim := { program := "ytpnmoecjhannnaa", sum := "912efa66c4b6b370ebb80b87a9971baea284b5328da623424d837f65f20cff74", func := "mullion/mullionlaw7.BelowRounds", spec := "belowRounds", apart := false, narrowed := true }
def BelowRoundsUptoSaid : Prop := belowRoundsUptoRow.holds Try.pinned (OpenSpec.upto belowRoundsSpec)

/-- 'mullionlaw7.BelowBoth', WHERE WHAT IT READS IS OF BULK AT MOST 1048576: true; the input reads as it did. -/
def belowBothUptoRow : OpenClaim := { program := "ytpnmoecjhannnaa", sum := "912efa66c4b6b370ebb80b87a9971baea284b5328da623424d837f65f20cff74", func := "mullion/mullionlaw7.BelowBoth", spec := "belowBoth", apart := false, narrowed := true }
def BelowBothUptoSaid : Prop := belowBothUptoRow.holds Try.pinned (OpenSpec.upto belowBothSpec)

end Rows
end Go.Proofs.Ytpnmoecjhannnaa
