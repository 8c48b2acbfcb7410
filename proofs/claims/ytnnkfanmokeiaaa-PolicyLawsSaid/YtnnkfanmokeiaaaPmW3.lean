import Derived.Test.YtnnkfanmokeiaaaPmW2
set_option linter.unusedVariables false
set_option linter.unusedSimpArgs false
namespace Go.AM
open Go Go.RowKit Go.Proofs
set_option maxRecDepth 10000
attribute [local irreducible] aR cm
set_option maxHeartbeats 2000000
end Go.AM
