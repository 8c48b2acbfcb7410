import Derived.Test.YtkgegocfjalcbaaDoorAmLp
import Derived.Test.YtkgegocfjalcbaaDoorCzT
namespace Go.AM
open Go
theorem awake21 : law21_awake = some true := by decide +kernel
end Go.AM
