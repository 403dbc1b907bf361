import Derived.Test.YtlibahklbbachaaGreatDoorRf13
set_option autoImplicit false
set_option maxRecDepth 100000
set_option linter.unusedSimpArgs false
set_option linter.unusedVariables false
namespace Go.Am.Sto
open Go Go.Am Go.Proofs
def F22 : List AV → Option AV
 | [.int .i64 12] => some (.tup [.int .i64 (2), .int .i64 (2)])
 | [.int .i64 13] => some (.tup [.int .i64 (1), .int .i64 (1)])
 | [.int .i64 14] => some (.tup [.int .i64 (1), .int .i64 (1)])
 | [.int .i64 16] => some (.tup [.int .i64 (2), .int .i64 (2)])
 | [.int .i64 19] => some (.tup [.int .i64 (0), .int .i64 (-1)])
 | [.int .i64 20] => some (.tup [.int .i64 (1), .int .i64 (1)])
 | [.int .i64 21] => some (.tup [.int .i64 (1), .int .i64 (1)])
 | [.int .i64 22] => some (.tup [.int .i64 (0), .int .i64 (-1)])
 | [.int .i64 25] => some (.tup [.int .i64 (2), .int .i64 (2)])
 | [.int .i64 26] => some (.tup [.int .i64 (3), .int .i64 (3)])
 | [.int .i64 29] => some (.tup [.int .i64 (1), .int .i64 (1)])
 | [.int .i64 30] => some (.tup [.int .i64 (1), .int .i64 (1)])
 | [.int .i64 33] => some (.tup [.int .i64 (2), .int .i64 (2)])
 | [.int .i64 49] => some (.tup [.int .i64 (1), .int .i64 (1)])
 | [.int .i64 50] => some (.tup [.int .i64 (1), .int .i64 (1)])
 | [.int .i64 51] => some (.tup [.int .i64 (2), .int .i64 (2)])
 | [.int .i64 57] => some (.tup [.int .i64 (1), .int .i64 (1)])
 | _ => none
theorem ar12 : bodyK Tryz.prog G0 .none 5 8 noLive Res.val? 3 Tryz.prog.funcs[22]? [.int .i64 12] St.empty = some (.tup [.int .i64 (2), .int .i64 (2)]) := by kernel_rfl
theorem ar13 : bodyK Tryz.prog G0 .none 5 8 noLive Res.val? 3 Tryz.prog.funcs[22]? [.int .i64 13] St.empty = some (.tup [.int .i64 (1), .int .i64 (1)]) := by kernel_rfl
theorem ar14 : bodyK Tryz.prog G0 .none 5 8 noLive Res.val? 3 Tryz.prog.funcs[22]? [.int .i64 14] St.empty = some (.tup [.int .i64 (1), .int .i64 (1)]) := by kernel_rfl
theorem ar16 : bodyK Tryz.prog G0 .none 5 8 noLive Res.val? 3 Tryz.prog.funcs[22]? [.int .i64 16] St.empty = some (.tup [.int .i64 (2), .int .i64 (2)]) := by kernel_rfl
theorem ar19 : bodyK Tryz.prog G0 .none 5 8 noLive Res.val? 3 Tryz.prog.funcs[22]? [.int .i64 19] St.empty = some (.tup [.int .i64 (0), .int .i64 (-1)]) := by kernel_rfl
theorem ar20 : bodyK Tryz.prog G0 .none 5 8 noLive Res.val? 3 Tryz.prog.funcs[22]? [.int .i64 20] St.empty = some (.tup [.int .i64 (1), .int .i64 (1)]) := by kernel_rfl
theorem ar21 : bodyK Tryz.prog G0 .none 5 8 noLive Res.val? 3 Tryz.prog.funcs[22]? [.int .i64 21] St.empty = some (.tup [.int .i64 (1), .int .i64 (1)]) := by kernel_rfl
theorem ar22 : bodyK Tryz.prog G0 .none 5 8 noLive Res.val? 3 Tryz.prog.funcs[22]? [.int .i64 22] St.empty = some (.tup [.int .i64 (0), .int .i64 (-1)]) := by kernel_rfl
theorem ar25 : bodyK Tryz.prog G0 .none 5 8 noLive Res.val? 3 Tryz.prog.funcs[22]? [.int .i64 25] St.empty = some (.tup [.int .i64 (2), .int .i64 (2)]) := by kernel_rfl
theorem ar26 : bodyK Tryz.prog G0 .none 5 8 noLive Res.val? 3 Tryz.prog.funcs[22]? [.int .i64 26] St.empty = some (.tup [.int .i64 (3), .int .i64 (3)]) := by kernel_rfl
theorem ar29 : bodyK Tryz.prog G0 .none 5 8 noLive Res.val? 3 Tryz.prog.funcs[22]? [.int .i64 29] St.empty = some (.tup [.int .i64 (1), .int .i64 (1)]) := by kernel_rfl
theorem ar30 : bodyK Tryz.prog G0 .none 5 8 noLive Res.val? 3 Tryz.prog.funcs[22]? [.int .i64 30] St.empty = some (.tup [.int .i64 (1), .int .i64 (1)]) := by kernel_rfl
theorem ar33 : bodyK Tryz.prog G0 .none 5 8 noLive Res.val? 3 Tryz.prog.funcs[22]? [.int .i64 33] St.empty = some (.tup [.int .i64 (2), .int .i64 (2)]) := by kernel_rfl
theorem ar49 : bodyK Tryz.prog G0 .none 5 8 noLive Res.val? 3 Tryz.prog.funcs[22]? [.int .i64 49] St.empty = some (.tup [.int .i64 (1), .int .i64 (1)]) := by kernel_rfl
theorem ar50 : bodyK Tryz.prog G0 .none 5 8 noLive Res.val? 3 Tryz.prog.funcs[22]? [.int .i64 50] St.empty = some (.tup [.int .i64 (1), .int .i64 (1)]) := by kernel_rfl
theorem ar51 : bodyK Tryz.prog G0 .none 5 8 noLive Res.val? 3 Tryz.prog.funcs[22]? [.int .i64 51] St.empty = some (.tup [.int .i64 (2), .int .i64 (2)]) := by kernel_rfl
theorem ar57 : bodyK Tryz.prog G0 .none 5 8 noLive Res.val? 3 Tryz.prog.funcs[22]? [.int .i64 57] St.empty = some (.tup [.int .i64 (1), .int .i64 (1)]) := by kernel_rfl
theorem k22 : ∀ (args : List AV) (s : St) (E : Env) (w : World) (vs : List Value), Rel E s w → GlobOk E G0 w → VRL E args vs → ResOk Tryz.prog E s w 22 vs (pureX F22 args s) := flat_known (D := noLive) (m := 3) (loops := 5) (n := 8) hm hn G0_plain (KnownOk.none _ _) fun ar x hF => by
 unfold F22 at hF
 split at hF
 ·cases hF; exact ⟨rfl, rfl, ar12⟩
 ·cases hF; exact ⟨rfl, rfl, ar13⟩
 ·cases hF; exact ⟨rfl, rfl, ar14⟩
 ·cases hF; exact ⟨rfl, rfl, ar16⟩
 ·cases hF; exact ⟨rfl, rfl, ar19⟩
 ·cases hF; exact ⟨rfl, rfl, ar20⟩
 ·cases hF; exact ⟨rfl, rfl, ar21⟩
 ·cases hF; exact ⟨rfl, rfl, ar22⟩
 ·cases hF; exact ⟨rfl, rfl, ar25⟩
 ·cases hF; exact ⟨rfl, rfl, ar26⟩
 ·cases hF; exact ⟨rfl, rfl, ar29⟩
 ·cases hF; exact ⟨rfl, rfl, ar30⟩
 ·cases hF; exact ⟨rfl, rfl, ar33⟩
 ·cases hF; exact ⟨rfl, rfl, ar49⟩
 ·cases hF; exact ⟨rfl, rfl, ar50⟩
 ·cases hF; exact ⟨rfl, rfl, ar51⟩
 ·cases hF; exact ⟨rfl, rfl, ar57⟩
 ·cases hF
end Go.Am.Sto
