/- The numbers of primitives that the laws call by name. -/
import Derived.Test.YtlibahklbbachaaGreatDoorEqu
set_option autoImplicit false
set_option maxRecDepth 100000
namespace Go.Am.Sto
open Go Go.Am Go.Proofs

def numOf (nm : List Nat) : Int :=
  bif eqNs [97, 112, 112, 101, 110, 100] nm then 22 else bif eqNs [114, 101, 118, 101, 114, 115, 101] nm then 57 else bif eqNs [108, 101, 110, 103, 116, 104] nm then 21 else bif eqNs [118, 101, 99, 116, 111, 114, 45, 62, 108, 105, 115, 116] nm then 30 else bif eqNs [108, 105, 115, 116, 45, 62, 118, 101, 99, 116, 111, 114] nm then 29 else bif eqNs [101, 113, 117, 97, 108, 63] nm then 33 else bif eqNs [108, 105, 115, 116, 63] nm then 20 else bif eqNs [108, 105, 115, 116] nm then 19 else bif eqNs [118, 101, 99, 116, 111, 114, 45, 115, 101, 116, 33] nm then 26 else bif eqNs [118, 101, 99, 116, 111, 114, 45, 114, 101, 102] nm then 25 else bif eqNs [98, 111, 120] nm then 49 else bif eqNs [99, 111, 110, 115] nm then 12 else bif eqNs [115, 101, 116, 45, 98, 111, 120, 33] nm then 51 else bif eqNs [115, 101, 116, 45, 99, 100, 114, 33] nm then 16 else bif eqNs [117, 110, 98, 111, 120] nm then 50 else bif eqNs [99, 97, 114] nm then 13 else bif eqNs [99, 100, 114] nm then 14 else -1
def F19 : List AV → Option AV
  | [.str nm] => bif leI 0 (numOf nm) then some (.tup [.int .i64 (numOf nm), .bool true]) else none
  | _ => none
theorem nm22 : bodyK Tryz.prog G0 .none 90 8 noLive Res.val? 90 Tryz.prog.funcs[19]? [.str [97, 112, 112, 101, 110, 100]] St.empty = some (.tup [.int .i64 22, .bool true]) := by kernel_rfl
theorem nm57 : bodyK Tryz.prog G0 .none 90 8 noLive Res.val? 90 Tryz.prog.funcs[19]? [.str [114, 101, 118, 101, 114, 115, 101]] St.empty = some (.tup [.int .i64 57, .bool true]) := by kernel_rfl
theorem nm21 : bodyK Tryz.prog G0 .none 90 8 noLive Res.val? 90 Tryz.prog.funcs[19]? [.str [108, 101, 110, 103, 116, 104]] St.empty = some (.tup [.int .i64 21, .bool true]) := by kernel_rfl
theorem nm30 : bodyK Tryz.prog G0 .none 90 8 noLive Res.val? 90 Tryz.prog.funcs[19]? [.str [118, 101, 99, 116, 111, 114, 45, 62, 108, 105, 115, 116]] St.empty = some (.tup [.int .i64 30, .bool true]) := by kernel_rfl
theorem nm29 : bodyK Tryz.prog G0 .none 90 8 noLive Res.val? 90 Tryz.prog.funcs[19]? [.str [108, 105, 115, 116, 45, 62, 118, 101, 99, 116, 111, 114]] St.empty = some (.tup [.int .i64 29, .bool true]) := by kernel_rfl
theorem nm33 : bodyK Tryz.prog G0 .none 90 8 noLive Res.val? 90 Tryz.prog.funcs[19]? [.str [101, 113, 117, 97, 108, 63]] St.empty = some (.tup [.int .i64 33, .bool true]) := by kernel_rfl
theorem nm20 : bodyK Tryz.prog G0 .none 90 8 noLive Res.val? 90 Tryz.prog.funcs[19]? [.str [108, 105, 115, 116, 63]] St.empty = some (.tup [.int .i64 20, .bool true]) := by kernel_rfl
theorem nm19 : bodyK Tryz.prog G0 .none 90 8 noLive Res.val? 90 Tryz.prog.funcs[19]? [.str [108, 105, 115, 116]] St.empty = some (.tup [.int .i64 19, .bool true]) := by kernel_rfl
theorem nm26 : bodyK Tryz.prog G0 .none 90 8 noLive Res.val? 90 Tryz.prog.funcs[19]? [.str [118, 101, 99, 116, 111, 114, 45, 115, 101, 116, 33]] St.empty = some (.tup [.int .i64 26, .bool true]) := by kernel_rfl
theorem nm25 : bodyK Tryz.prog G0 .none 90 8 noLive Res.val? 90 Tryz.prog.funcs[19]? [.str [118, 101, 99, 116, 111, 114, 45, 114, 101, 102]] St.empty = some (.tup [.int .i64 25, .bool true]) := by kernel_rfl
theorem nm49 : bodyK Tryz.prog G0 .none 90 8 noLive Res.val? 90 Tryz.prog.funcs[19]? [.str [98, 111, 120]] St.empty = some (.tup [.int .i64 49, .bool true]) := by kernel_rfl
theorem nm12 : bodyK Tryz.prog G0 .none 90 8 noLive Res.val? 90 Tryz.prog.funcs[19]? [.str [99, 111, 110, 115]] St.empty = some (.tup [.int .i64 12, .bool true]) := by kernel_rfl
theorem nm51 : bodyK Tryz.prog G0 .none 90 8 noLive Res.val? 90 Tryz.prog.funcs[19]? [.str [115, 101, 116, 45, 98, 111, 120, 33]] St.empty = some (.tup [.int .i64 51, .bool true]) := by kernel_rfl
theorem nm16 : bodyK Tryz.prog G0 .none 90 8 noLive Res.val? 90 Tryz.prog.funcs[19]? [.str [115, 101, 116, 45, 99, 100, 114, 33]] St.empty = some (.tup [.int .i64 16, .bool true]) := by kernel_rfl
theorem nm50 : bodyK Tryz.prog G0 .none 90 8 noLive Res.val? 90 Tryz.prog.funcs[19]? [.str [117, 110, 98, 111, 120]] St.empty = some (.tup [.int .i64 50, .bool true]) := by kernel_rfl
theorem nm13 : bodyK Tryz.prog G0 .none 90 8 noLive Res.val? 90 Tryz.prog.funcs[19]? [.str [99, 97, 114]] St.empty = some (.tup [.int .i64 13, .bool true]) := by kernel_rfl
theorem nm14 : bodyK Tryz.prog G0 .none 90 8 noLive Res.val? 90 Tryz.prog.funcs[19]? [.str [99, 100, 114]] St.empty = some (.tup [.int .i64 14, .bool true]) := by kernel_rfl
theorem eqNs_eq : ∀ {a b : List Nat}, eqNs a b = true → a = b
  | [], [], _ => rfl
  | x :: a, y :: b, h => by
    simp only [eqNs] at h
    cases hb : x.beq y with
    | true => rw [hb] at h; rw [Nat.eq_of_beq_eq_true hb, eqNs_eq h]
    | false => rw [hb] at h; cases h
  | [], _ :: _, h => by cases h
  | _ :: _, [], h => by cases h
theorem num_ok (nm : List Nat) (h : leI 0 (numOf nm) = true) : bodyK Tryz.prog G0 .none 90 8 noLive Res.val? 90 Tryz.prog.funcs[19]? [.str nm] St.empty = some (.tup [.int .i64 (numOf nm), .bool true]) := by
  unfold numOf at h ⊢
  cases h22 : eqNs [97, 112, 112, 101, 110, 100] nm with
  | true => rw [← eqNs_eq h22]; exact nm22
  | false =>
  rw [h22] at h
  cases h57 : eqNs [114, 101, 118, 101, 114, 115, 101] nm with
  | true => rw [← eqNs_eq h57]; exact nm57
  | false =>
  rw [h57] at h
  cases h21 : eqNs [108, 101, 110, 103, 116, 104] nm with
  | true => rw [← eqNs_eq h21]; exact nm21
  | false =>
  rw [h21] at h
  cases h30 : eqNs [118, 101, 99, 116, 111, 114, 45, 62, 108, 105, 115, 116] nm with
  | true => rw [← eqNs_eq h30]; exact nm30
  | false =>
  rw [h30] at h
  cases h29 : eqNs [108, 105, 115, 116, 45, 62, 118, 101, 99, 116, 111, 114] nm with
  | true => rw [← eqNs_eq h29]; exact nm29
  | false =>
  rw [h29] at h
  cases h33 : eqNs [101, 113, 117, 97, 108, 63] nm with
  | true => rw [← eqNs_eq h33]; exact nm33
  | false =>
  rw [h33] at h
  cases h20 : eqNs [108, 105, 115, 116, 63] nm with
  | true => rw [← eqNs_eq h20]; exact nm20
  | false =>
  rw [h20] at h
  cases h19 : eqNs [108, 105, 115, 116] nm with
  | true => rw [← eqNs_eq h19]; exact nm19
  | false =>
  rw [h19] at h
  cases h26 : eqNs [118, 101, 99, 116, 111, 114, 45, 115, 101, 116, 33] nm with
  | true => rw [← eqNs_eq h26]; exact nm26
  | false =>
  rw [h26] at h
  cases h25 : eqNs [118, 101, 99, 116, 111, 114, 45, 114, 101, 102] nm with
  | true => rw [← eqNs_eq h25]; exact nm25
  | false =>
  rw [h25] at h
  cases h49 : eqNs [98, 111, 120] nm with
  | true => rw [← eqNs_eq h49]; exact nm49
  | false =>
  rw [h49] at h
  cases h12 : eqNs [99, 111, 110, 115] nm with
  | true => rw [← eqNs_eq h12]; exact nm12
  | false =>
  rw [h12] at h
  cases h51 : eqNs [115, 101, 116, 45, 98, 111, 120, 33] nm with
  | true => rw [← eqNs_eq h51]; exact nm51
  | false =>
  rw [h51] at h
  cases h16 : eqNs [115, 101, 116, 45, 99, 100, 114, 33] nm with
  | true => rw [← eqNs_eq h16]; exact nm16
  | false =>
  rw [h16] at h
  cases h50 : eqNs [117, 110, 98, 111, 120] nm with
  | true => rw [← eqNs_eq h50]; exact nm50
  | false =>
  rw [h50] at h
  cases h13 : eqNs [99, 97, 114] nm with
  | true => rw [← eqNs_eq h13]; exact nm13
  | false =>
  rw [h13] at h
  cases h14 : eqNs [99, 100, 114] nm with
  | true => rw [← eqNs_eq h14]; exact nm14
  | false =>
  rw [h14] at h
  cases h
theorem k19 : ∀ (args : List AV) (s : St) (E : Env) (w : World) (vs : List Value), Rel E s w → GlobOk E G0 w → VRL E args vs → ResOk Tryz.prog E s w 19 vs (pureX F19 args s) := flat_known (D := noLive) (m := 90) (loops := 90) (n := 8) hm hn G0_plain (KnownOk.none _ _) fun ar x hF => by
  unfold F19 at hF
  split at hF
  · rename_i nm
    rcases Bool.eq_false_or_eq_true (leI 0 (numOf nm)) with hb | hb
    · rw [cond_of_true hb] at hF
      cases hF
      exact ⟨rfl, rfl, num_ok nm hb⟩
    · rw [cond_of_false hb] at hF; cases hF
  · cases hF
end Go.Am.Sto
