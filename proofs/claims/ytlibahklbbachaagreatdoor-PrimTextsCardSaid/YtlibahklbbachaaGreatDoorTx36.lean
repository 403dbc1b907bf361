import Derived.Test.YtlibahklbbachaaGreatDoorTx11
import Derived.Test.YtlibahklbbachaaGreatDoorTx21
set_option autoImplicit false
set_option maxRecDepth 100000
set_option linter.unusedSimpArgs false
set_option linter.unusedVariables false
namespace Go.Am.Txt
open Go Go.Am Go.Proofs Go.Am.Sto
def nm42 : List Nat := [115, 116, 114, 105, 110, 103, 45, 97, 112, 112, 101, 110, 100]
def nm40 : List Nat := [115, 116, 114, 105, 110, 103, 45, 108, 101, 110, 103, 116, 104]
def nm44 : List Nat := [115, 116, 114, 105, 110, 103, 45, 62, 108, 105, 115, 116]
def nm45 : List Nat := [108, 105, 115, 116, 45, 62, 115, 116, 114, 105, 110, 103]
def nm55 : List Nat := [110, 117, 109, 98, 101, 114, 45, 62, 115, 116, 114, 105, 110, 103]
def nm56 : List Nat := [115, 116, 114, 105, 110, 103, 45, 62, 110, 117, 109, 98, 101, 114]
def nm43 : List Nat := [115, 116, 114, 105, 110, 103, 61, 63]
def nm32 : List Nat := [101, 113, 118, 63]
def nm38 : List Nat := [115, 116, 114, 105, 110, 103, 45, 62, 115, 121, 109, 98, 111, 108]
def nm37 : List Nat := [115, 121, 109, 98, 111, 108, 45, 62, 115, 116, 114, 105, 110, 103]
def nm31 : List Nat := [101, 113, 63]
def numOf (nm : List Nat) : Int :=
  bif eqNs nm42 nm then 42 else bif eqNs nm40 nm then 40 else bif eqNs nm44 nm then 44 else bif eqNs nm45 nm then 45 else bif eqNs nm55 nm then 55 else bif eqNs nm56 nm then 56 else bif eqNs nm43 nm then 43 else bif eqNs nm32 nm then 32 else bif eqNs nm38 nm then 38 else bif eqNs nm37 nm then 37 else bif eqNs nm31 nm then 31 else -1
def F19 : List AV → Option AV
  | [.str nm] => bif leI 0 (numOf nm) then some (.tup [.int .i64 (numOf nm), .bool true]) else none
  | _ => none
abbrev run19 (P : Program) (nm : List Nat) : Option AV := bodyK P G0 .none 90 8 noLive Res.val? 90 P.funcs[19]? [.str nm] St.empty
theorem num42 : run19 Tryz.prog nm42 = some (.tup [.int .i64 42, .bool true]) := by kernel_rfl
theorem num40 : run19 Tryz.prog nm40 = some (.tup [.int .i64 40, .bool true]) := by kernel_rfl
theorem num44 : run19 Tryz.prog nm44 = some (.tup [.int .i64 44, .bool true]) := by kernel_rfl
theorem num45 : run19 Tryz.prog nm45 = some (.tup [.int .i64 45, .bool true]) := by kernel_rfl
theorem num55 : run19 Tryz.prog nm55 = some (.tup [.int .i64 55, .bool true]) := by kernel_rfl
theorem num56 : run19 Tryz.prog nm56 = some (.tup [.int .i64 56, .bool true]) := by kernel_rfl
theorem num43 : run19 Tryz.prog nm43 = some (.tup [.int .i64 43, .bool true]) := by kernel_rfl
theorem num32 : run19 Tryz.prog nm32 = some (.tup [.int .i64 32, .bool true]) := by kernel_rfl
theorem num38 : run19 Tryz.prog nm38 = some (.tup [.int .i64 38, .bool true]) := by kernel_rfl
theorem num37 : run19 Tryz.prog nm37 = some (.tup [.int .i64 37, .bool true]) := by kernel_rfl
theorem num31 : run19 Tryz.prog nm31 = some (.tup [.int .i64 31, .bool true]) := by kernel_rfl
theorem eqNs_eq : ∀ {a b : List Nat}, eqNs a b = true → a = b
  | [], [], _ => rfl
  | x :: a, y :: b, h => by
    simp only [eqNs] at h
    cases hb : x.beq y with
    | true => rw [hb] at h; rw [Nat.eq_of_beq_eq_true hb, eqNs_eq h]
    | false => rw [hb] at h; cases h
  | [], _ :: _, h => by cases h
  | _ :: _, [], h => by cases h
theorem num_ok (nm : List Nat) (h : leI 0 (numOf nm) = true) : run19 Tryz.prog nm = some (.tup [.int .i64 (numOf nm), .bool true]) := by
  unfold numOf at h ⊢
  cases h42 : eqNs nm42 nm with
  | true => rw [← eqNs_eq h42]; exact num42
  | false =>
  rw [h42] at h
  cases h40 : eqNs nm40 nm with
  | true => rw [← eqNs_eq h40]; exact num40
  | false =>
  rw [h40] at h
  cases h44 : eqNs nm44 nm with
  | true => rw [← eqNs_eq h44]; exact num44
  | false =>
  rw [h44] at h
  cases h45 : eqNs nm45 nm with
  | true => rw [← eqNs_eq h45]; exact num45
  | false =>
  rw [h45] at h
  cases h55 : eqNs nm55 nm with
  | true => rw [← eqNs_eq h55]; exact num55
  | false =>
  rw [h55] at h
  cases h56 : eqNs nm56 nm with
  | true => rw [← eqNs_eq h56]; exact num56
  | false =>
  rw [h56] at h
  cases h43 : eqNs nm43 nm with
  | true => rw [← eqNs_eq h43]; exact num43
  | false =>
  rw [h43] at h
  cases h32 : eqNs nm32 nm with
  | true => rw [← eqNs_eq h32]; exact num32
  | false =>
  rw [h32] at h
  cases h38 : eqNs nm38 nm with
  | true => rw [← eqNs_eq h38]; exact num38
  | false =>
  rw [h38] at h
  cases h37 : eqNs nm37 nm with
  | true => rw [← eqNs_eq h37]; exact num37
  | false =>
  rw [h37] at h
  cases h31 : eqNs nm31 nm with
  | true => rw [← eqNs_eq h31]; exact num31
  | false =>
  rw [h31] at h
  cases h
theorem k19 : OkF G0 19 (pureX F19) := flat_known (D := noLive) (m := 90) (loops := 90) (n := 8) hm hn G0_plain (KnownOk.none _ _) fun ar x hF => by
  unfold F19 at hF
  split at hF
  · rename_i nm
    rcases Bool.eq_false_or_eq_true (leI 0 (numOf nm)) with hb | hb
    · rw [cond_of_true hb] at hF
      cases hF
      exact ⟨rfl, rfl, num_ok nm hb⟩
    · rw [cond_of_false hb] at hF; cases hF
  · cases hF
end Go.Am.Txt
