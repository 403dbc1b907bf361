import Derived.Test.YtlibahklbbachaaGreatDoorRf7
set_option autoImplicit false
set_option maxRecDepth 100000
set_option linter.unusedSimpArgs false
set_option linter.unusedVariables false
namespace Go.Am
/-! ## Contracts of one thing and one list of arguments at a time -/
end Go.Am
