/- What the document reads is what the code reads. -/
import Derived.Test.YteddmdkbeednmaaDoorK33DAVH
namespace Go.Proofs.YteddmdkbeednmaaDoor.Rx
set_option linter.unusedVariables false
set_option linter.unusedSimpArgs false
set_option maxRecDepth 100000
set_option maxHeartbeats 1000000
section
variable {tk : List UInt8 → Option (Tk × List UInt8)}
end
end Go.Proofs.YteddmdkbeednmaaDoor.Rx
