import Derived.Test.YtlibahklbbachaaGreatDoorRf24
set_option autoImplicit false
set_option maxRecDepth 100000
set_option linter.unusedSimpArgs false
set_option linter.unusedVariables false
namespace Go.Am.Sto
open Go Go.Am Go.Proofs
section
variable (sn : Bool → List AV → Nat → Bool) (it : Int → List Nat) (tt : Bool) (a b c : Int)
theorem t60t_1 : txtP sn it tt a b c Tryz.prog true 4 1 := by unfold txtP; kernel_rfl
theorem t60t_2 : txtP sn it tt a b c Tryz.prog true 4 2 := by unfold txtP; kernel_rfl
theorem t60t_3 : txtP sn it tt a b c Tryz.prog true 4 3 := by unfold txtP; kernel_rfl
theorem t60t_4 : txtP sn it tt a b c Tryz.prog true 4 4 := by unfold txtP; kernel_rfl
theorem t60t_5 : txtP sn it tt a b c Tryz.prog true 4 5 := by unfold txtP; kernel_rfl
theorem t60t_6 : txtP sn it tt a b c Tryz.prog true 4 6 := by unfold txtP; kernel_rfl
theorem t60t_7 : txtP sn it tt a b c Tryz.prog true 4 7 := by unfold txtP; kernel_rfl
theorem t60t_8 : txtP sn it tt a b c Tryz.prog true 4 8 := by unfold txtP; kernel_rfl
theorem t60t_9 : txtP sn it tt a b c Tryz.prog true 4 9 := by unfold txtP; kernel_rfl
theorem t60w (g : Bool) : ∀ j, 1 ≤ j → j ≤ 9 → txtP sn it tt a b c Tryz.prog g (bif g then 4 else 2) j
 | 0, h, _ => absurd h (by omega)
 | 1, _, _ => by cases g with | true => exact t60t_1 sn it tt a b c | false => exact t60f_1 sn it tt a b c
 | 2, _, _ => by cases g with | true => exact t60t_2 sn it tt a b c | false => exact t60f_2 sn it tt a b c
 | 3, _, _ => by cases g with | true => exact t60t_3 sn it tt a b c | false => exact t60f_3 sn it tt a b c
 | 4, _, _ => by cases g with | true => exact t60t_4 sn it tt a b c | false => exact t60f_4 sn it tt a b c
 | 5, _, _ => by cases g with | true => exact t60t_5 sn it tt a b c | false => exact t60f_5 sn it tt a b c
 | 6, _, _ => by cases g with | true => exact t60t_6 sn it tt a b c | false => exact t60f_6 sn it tt a b c
 | 7, _, _ => by cases g with | true => exact t60t_7 sn it tt a b c | false => exact t60f_7 sn it tt a b c
 | 8, _, _ => by cases g with | true => exact t60t_8 sn it tt a b c | false => exact t60f_8 sn it tt a b c
 | 9, _, _ => by cases g with | true => exact t60t_9 sn it tt a b c | false => exact t60f_9 sn it tt a b c
 | j + 10, _, h => absurd h (by omega)
end
end Go.Am.Sto
