/- MachNil: what is closed in it. -/
import Derived.Test.YtaiddjgpnpbckaaGreatDoorMachB
set_option autoImplicit false
set_option maxRecDepth 100000
namespace Go.Am.Mach
open Go Go.Am Go.Proofs
def X0 : Known := Known.none.add 353 sameX
def F13 : List AV → Option AV
  | [] => some (.bool true)
  | _ => none
theorem run13 : bodyK Tryz.prog G0 X0 100 100 noLive Res.val? 100 Tryz.prog.funcs[13]? [] St.empty = some (.bool true) := by kernel_rfl
def X1 : Known := ((X0.add 13 (pureX F13)).add 26 (readX F26)).add 18 (readX F18)
end Go.Am.Mach
