/- A part of the proof of a given law: CYC3. Own work, printed in part by a program of mine. -/
import Derived.Test.YtlmhnhlmlhfigaaK40CYC2
namespace Go.Proofs.Ytlmhnhlmlhfigaa
open Go Go.AM
set_option linter.unusedVariables false
set_option linter.unusedSimpArgs false
set_option maxRecDepth 100000
set_option maxHeartbeats 4000000
end Go.Proofs.Ytlmhnhlmlhfigaa
