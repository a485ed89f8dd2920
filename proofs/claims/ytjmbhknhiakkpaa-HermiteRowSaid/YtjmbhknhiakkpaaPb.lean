/- At every input the call answers true and leaves its arguments as they were; no conditions. -/
import Derived.Test.YtjmbhknhiakkpaaPa
import Derived.Test.YtjmbhknhiakkpaaQa
import Derived.Test.YtjmbhknhiakkpaaIb
set_option linter.unusedSimpArgs false
set_option linter.unusedVariables false
namespace Go.Proofs.Ytjmbhknhiakkpaa
open Go Go.Abs
set_option maxHeartbeats 8000000
/-! ### The reference's forms -/
end Go.Proofs.Ytjmbhknhiakkpaa
namespace Go.Proofs.Ytjmbhknhiakkpaa
open Go Go.Abs
set_option maxHeartbeats 8000000
end Go.Proofs.Ytjmbhknhiakkpaa
namespace Go.Proofs.Ytjmbhknhiakkpaa
open Go Go.Abs
set_option maxHeartbeats 16000000
end Go.Proofs.Ytjmbhknhiakkpaa
