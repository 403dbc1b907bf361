/- The table of the primitives: names, arities, and that the program answers at all. -/
import Derived.Test.YtlibahklbbachaaGreatDoorTabA
set_option autoImplicit false
set_option maxRecDepth 100000
namespace Go.Am.Tab
open Go Go.Am Go.Proofs

/-! ## Arities -/
def arOf (op : Int) : Int × Int :=
  match op with
  | .ofNat k => match ars[k]? with | some p => p | none => (0, -2)
  | .negSucc _ => (0, -2)
def arV (op : Int) : AV := .tup [.int .i64 (arOf op).1, .int .i64 (arOf op).2]
def arB (P : Program) (f : FuncId) (op : Int) : Option AV := bodyK P G0 (callN P G0 XT 0 5) D0 byB Res.val? 0 P.funcs[f]? [.int .i64 op] St.empty
theorem neg22 (m : Nat) : arB Tryz.prog 22 (.negSucc m) = some (arV (.negSucc m)) := by kernel_rfl
theorem neg12 (m : Nat) : arB Tryz.prog 12 (.negSucc m) = some (arV (.negSucc m)) := by kernel_rfl
theorem big22 (m : Nat) : arB Tryz.prog 22 (.ofNat (m + 80)) = some (arV (.ofNat (m + 80))) := by kernel_rfl
theorem big12 (m : Nat) : arB Tryz.prog 12 (.ofNat (m + 80)) = some (arV (.ofNat (m + 80))) := by kernel_rfl
theorem in0 : arB Tryz.prog 22 7 = some (arV 7) := by kernel_rfl
theorem in12 : arB Tryz.prog 12 7 = some (arV 7) := by kernel_rfl
/-! ## Names, and the model's -/
def namesV : AV := .lst (names.map .str) 80 false false
theorem run20 : bodyK Tryz.prog G0 (callN Tryz.prog G0 XT 0 5) D0 byB Res.list? 81 Tryz.prog.funcs[20]? [] St.empty = some namesV := by kernel_rfl
theorem run21 : bodyK Tryz.prog G0 (callN Tryz.prog G0 XT 0 5) D0 byB Res.list? 81 Tryz.prog.funcs[21]? [] St.empty = some (.lst (names.map .str) 80 true false) := by kernel_rfl
def XN : Known := XT.add 209 sameX
theorem run9 : bodyK Tryz.prog G0 (callN Tryz.prog G0 XN 100 100) D0 byB Res.val? 100 Tryz.prog.funcs[9]? [] St.empty = some (.bool true) := by kernel_rfl
end Go.Am.Tab
