import Derived.Test.YtlibahklbbachaaGreatDoorRf13
set_option autoImplicit false
set_option maxRecDepth 100000
set_option linter.unusedSimpArgs false
set_option linter.unusedVariables false
namespace Go.Am.Sto
open Go Go.Am Go.Proofs
end Go.Am.Sto
