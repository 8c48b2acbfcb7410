import Derived.Test.YtfjelgjfbjjopaaAmN6
/-
  Bytes, strings, ranges: facts for plain laws.
-/
set_option linter.unusedVariables false
set_option linter.unusedSectionVars false
set_option linter.unusedSimpArgs false
namespace Go.AM
open Go

end Go.AM
