import Derived.Test.YtlibahklbbachaaGreatDoorTx14
set_option autoImplicit false
set_option maxRecDepth 100000
set_option linter.unusedSimpArgs false
set_option linter.unusedVariables false
namespace Go.Am
open Go
end Go.Am
