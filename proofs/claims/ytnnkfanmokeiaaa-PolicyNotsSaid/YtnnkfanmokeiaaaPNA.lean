import Derived.Test.YtnnkfanmokeiaaaPnT
namespace Go.AM
open Go
theorem sH : lI = some true := by decide +kernel
end Go.AM
