import Derived.Test.YtkgegocfjalcbaaAmLp
import Derived.Test.YtkgegocfjalcbaaSpT
namespace Go.AM
open Go
theorem awake11 : law11_awake = some true := by decide +kernel
end Go.AM
