/- MachNil: the law, by the second meaning: no fuel. -/
import Derived.Test.YtaiddjgpnpbckaaGreatDoorMachC
set_option autoImplicit false
set_option maxRecDepth 100000
namespace Go.Am.Mach
open Go Go.Am Go.Proofs
theorem none0 (t N : Int) : law Tryz.prog [] t N (.ofNat 0) = yn true := by kernel_rfl
theorem none1 (c : Nat) (l : List Nat) (t N : Int) : law Tryz.prog (c :: l) t N (.ofNat 0) = tree (c :: l) t N (fun i w => fin i w t N 15 15) := by kernel_rfl
end Go.Am.Mach
