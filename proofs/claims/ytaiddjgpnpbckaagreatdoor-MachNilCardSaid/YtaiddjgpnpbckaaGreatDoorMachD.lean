/- MachNil: the law, by the second meaning: fuel below nought. -/
import Derived.Test.YtaiddjgpnpbckaaGreatDoorMachC
set_option autoImplicit false
set_option maxRecDepth 100000
namespace Go.Am.Mach
open Go Go.Am Go.Proofs
theorem neg0 (t N : Int) (m : Nat) : law Tryz.prog [] t N (.negSucc m) = yn true := by kernel_rfl
theorem neg1 (c : Nat) (l : List Nat) (t N : Int) (m : Nat) : law Tryz.prog (c :: l) t N (.negSucc m) = tree (c :: l) t N (fun i w => fin i w t N 1 1) := by kernel_rfl
end Go.Am.Mach
