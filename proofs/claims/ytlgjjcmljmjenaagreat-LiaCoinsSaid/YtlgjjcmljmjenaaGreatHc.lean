/- At every input the call answers true and leaves its arguments as they were; no conditions. -/
import Derived.Test.YtlgjjcmljmjenaaGreatWb
import Derived.Test.YtlgjjcmljmjenaaGreatHb
import Derived.Test.YtlgjjcmljmjenaaGreatPa
set_option linter.unusedSimpArgs false
set_option linter.unusedVariables false
set_option maxRecDepth 100000
set_option maxHeartbeats 32000000
namespace Go.Proofs.YtlgjjcmljmjenaaGreat
open Go Go.Abs Go.Proofs.Tryz
end Go.Proofs.YtlgjjcmljmjenaaGreat
