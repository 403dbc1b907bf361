/- MachNil: the law, by the second meaning: more fuel. -/
import Derived.Test.YtaiddjgpnpbckaaGreatDoorMachC
set_option autoImplicit false
set_option maxRecDepth 100000
namespace Go.Am.Mach
open Go Go.Am Go.Proofs
theorem more0 (t N : Int) (k : Nat) : law Tryz.prog [] t N (.ofNat (k + 2)) = both k (fun j f => yn (Nat.beq j f)) := by kernel_rfl
theorem more1 (c : Nat) (l : List Nat) (t N : Int) (k : Nat) : law Tryz.prog (c :: l) t N (.ofNat (k + 2)) = tree (c :: l) t N (fun i w p => both k (fun j f => fin i w t N j f p)) := by kernel_rfl
end Go.Am.Mach
