/- At every input the call answers true and leaves its arguments as they were; no conditions. -/
import Derived.Test.YtjmbhknhiakkpaaCb
import Derived.Test.YtjmbhknhiakkpaaPc
set_option linter.unusedSimpArgs false
set_option linter.unusedVariables false
namespace Go.Proofs.Ytjmbhknhiakkpaa
open Go Go.Abs
set_option maxHeartbeats 8000000
def FLs (a : List LL) : Prop := (∀ l ∈ a, FL l) ∧ a.length ≤ 10
instance (a : List LL) : Decidable (FLs a) := by unfold FLs; exact inferInstance
def FR (x : List QQ) : Prop := (∀ q ∈ x, q.2.1.length ≤ 3 ∧ q.2.2.length ≤ 3) ∧ x.length ≤ 12
instance (x : List QQ) : Decidable (FR x) := by unfold FR; exact inferInstance
end Go.Proofs.Ytjmbhknhiakkpaa
namespace Go.Proofs.Ytjmbhknhiakkpaa
open Go Go.Abs
set_option maxHeartbeats 8000000
end Go.Proofs.Ytjmbhknhiakkpaa
