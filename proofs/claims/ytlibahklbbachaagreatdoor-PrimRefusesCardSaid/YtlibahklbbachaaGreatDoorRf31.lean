import Derived.Test.YtlibahklbbachaaGreatDoorRf30
set_option autoImplicit false
set_option maxRecDepth 100000
set_option linter.unusedSimpArgs false
set_option linter.unusedVariables false
set_option maxHeartbeats 8000000
namespace Go.Am.Sto
open Go Go.Am Go.Proofs
section
variable (sn : Bool → List AV → Nat → Bool)
variable (M N : Nat) (ng : Bool) (a : List AV) (n : Nat) (t1 l1 : Bool) (mg : Bool) (t2 l2 : Bool) (K : Nat) (C : List AV)
def st73 (P : Program) (i : Nat) (b : List Int) (m : Nat) : Prop := L73 sn (M + 4) P (N + 1) (tMul a n t1 l1 K (.ofNat i)) (sMul ng a n t1 l1 mg (u32s b) m t2 l2 K C) =
  byB (!leI (.ofNat n) (.ofNat i)) (ifK (Nat.blt i n && nonNil a) (opt1 .u32 (fun x => innerT i K x (fun C2 => L73 sn (M + 4) P N (tMul a n t1 l1 K (IntKind.i64.wrap (.ofNat i + 1))) (sMul ng a n t1 l1 mg (u32s b) m t2 l2 K C2)) b 0 0 C) (a[i * 1]?))) (ofM ng mg C K)
theorem r73 : ∀ i, i < 62 → ∀ b : List Int, b.length ≤ 2 → st73 sn M N ng a n t1 l1 mg t2 l2 K C Tryz.prog i b b.length
 | 0, _, [], _ => by unfold st73; as_aux_lemma => kernel_rfl
 | 0, _, [b0], _ => by unfold st73; as_aux_lemma => kernel_rfl
 | 0, _, [b0, b1], _ => by unfold st73; as_aux_lemma => kernel_rfl
 | 1, _, [], _ => by unfold st73; as_aux_lemma => kernel_rfl
 | 1, _, [b0], _ => by unfold st73; as_aux_lemma => kernel_rfl
 | 1, _, [b0, b1], _ => by unfold st73; as_aux_lemma => kernel_rfl
 | 2, _, [], _ => by unfold st73; as_aux_lemma => kernel_rfl
 | 2, _, [b0], _ => by unfold st73; as_aux_lemma => kernel_rfl
 | 2, _, [b0, b1], _ => by unfold st73; as_aux_lemma => kernel_rfl
 | 3, _, [], _ => by unfold st73; as_aux_lemma => kernel_rfl
 | 3, _, [b0], _ => by unfold st73; as_aux_lemma => kernel_rfl
 | 3, _, [b0, b1], _ => by unfold st73; as_aux_lemma => kernel_rfl
 | 4, _, [], _ => by unfold st73; as_aux_lemma => kernel_rfl
 | 4, _, [b0], _ => by unfold st73; as_aux_lemma => kernel_rfl
 | 4, _, [b0, b1], _ => by unfold st73; as_aux_lemma => kernel_rfl
 | 5, _, [], _ => by unfold st73; as_aux_lemma => kernel_rfl
 | 5, _, [b0], _ => by unfold st73; as_aux_lemma => kernel_rfl
 | 5, _, [b0, b1], _ => by unfold st73; as_aux_lemma => kernel_rfl
 | 6, _, [], _ => by unfold st73; as_aux_lemma => kernel_rfl
 | 6, _, [b0], _ => by unfold st73; as_aux_lemma => kernel_rfl
 | 6, _, [b0, b1], _ => by unfold st73; as_aux_lemma => kernel_rfl
 | 7, _, [], _ => by unfold st73; as_aux_lemma => kernel_rfl
 | 7, _, [b0], _ => by unfold st73; as_aux_lemma => kernel_rfl
 | 7, _, [b0, b1], _ => by unfold st73; as_aux_lemma => kernel_rfl
 | 8, _, [], _ => by unfold st73; as_aux_lemma => kernel_rfl
 | 8, _, [b0], _ => by unfold st73; as_aux_lemma => kernel_rfl
 | 8, _, [b0, b1], _ => by unfold st73; as_aux_lemma => kernel_rfl
 | 9, _, [], _ => by unfold st73; as_aux_lemma => kernel_rfl
 | 9, _, [b0], _ => by unfold st73; as_aux_lemma => kernel_rfl
 | 9, _, [b0, b1], _ => by unfold st73; as_aux_lemma => kernel_rfl
 | 10, _, [], _ => by unfold st73; as_aux_lemma => kernel_rfl
 | 10, _, [b0], _ => by unfold st73; as_aux_lemma => kernel_rfl
 | 10, _, [b0, b1], _ => by unfold st73; as_aux_lemma => kernel_rfl
 | 11, _, [], _ => by unfold st73; as_aux_lemma => kernel_rfl
 | 11, _, [b0], _ => by unfold st73; as_aux_lemma => kernel_rfl
 | 11, _, [b0, b1], _ => by unfold st73; as_aux_lemma => kernel_rfl
 | 12, _, [], _ => by unfold st73; as_aux_lemma => kernel_rfl
 | 12, _, [b0], _ => by unfold st73; as_aux_lemma => kernel_rfl
 | 12, _, [b0, b1], _ => by unfold st73; as_aux_lemma => kernel_rfl
 | 13, _, [], _ => by unfold st73; as_aux_lemma => kernel_rfl
 | 13, _, [b0], _ => by unfold st73; as_aux_lemma => kernel_rfl
 | 13, _, [b0, b1], _ => by unfold st73; as_aux_lemma => kernel_rfl
 | 14, _, [], _ => by unfold st73; as_aux_lemma => kernel_rfl
 | 14, _, [b0], _ => by unfold st73; as_aux_lemma => kernel_rfl
 | 14, _, [b0, b1], _ => by unfold st73; as_aux_lemma => kernel_rfl
 | 15, _, [], _ => by unfold st73; as_aux_lemma => kernel_rfl
 | 15, _, [b0], _ => by unfold st73; as_aux_lemma => kernel_rfl
 | 15, _, [b0, b1], _ => by unfold st73; as_aux_lemma => kernel_rfl
 | 16, _, [], _ => by unfold st73; as_aux_lemma => kernel_rfl
 | 16, _, [b0], _ => by unfold st73; as_aux_lemma => kernel_rfl
 | 16, _, [b0, b1], _ => by unfold st73; as_aux_lemma => kernel_rfl
 | 17, _, [], _ => by unfold st73; as_aux_lemma => kernel_rfl
 | 17, _, [b0], _ => by unfold st73; as_aux_lemma => kernel_rfl
 | 17, _, [b0, b1], _ => by unfold st73; as_aux_lemma => kernel_rfl
 | 18, _, [], _ => by unfold st73; as_aux_lemma => kernel_rfl
 | 18, _, [b0], _ => by unfold st73; as_aux_lemma => kernel_rfl
 | 18, _, [b0, b1], _ => by unfold st73; as_aux_lemma => kernel_rfl
 | 19, _, [], _ => by unfold st73; as_aux_lemma => kernel_rfl
 | 19, _, [b0], _ => by unfold st73; as_aux_lemma => kernel_rfl
 | 19, _, [b0, b1], _ => by unfold st73; as_aux_lemma => kernel_rfl
 | 20, _, [], _ => by unfold st73; as_aux_lemma => kernel_rfl
 | 20, _, [b0], _ => by unfold st73; as_aux_lemma => kernel_rfl
 | 20, _, [b0, b1], _ => by unfold st73; as_aux_lemma => kernel_rfl
 | 21, _, [], _ => by unfold st73; as_aux_lemma => kernel_rfl
 | 21, _, [b0], _ => by unfold st73; as_aux_lemma => kernel_rfl
 | 21, _, [b0, b1], _ => by unfold st73; as_aux_lemma => kernel_rfl
 | 22, _, [], _ => by unfold st73; as_aux_lemma => kernel_rfl
 | 22, _, [b0], _ => by unfold st73; as_aux_lemma => kernel_rfl
 | 22, _, [b0, b1], _ => by unfold st73; as_aux_lemma => kernel_rfl
 | 23, _, [], _ => by unfold st73; as_aux_lemma => kernel_rfl
 | 23, _, [b0], _ => by unfold st73; as_aux_lemma => kernel_rfl
 | 23, _, [b0, b1], _ => by unfold st73; as_aux_lemma => kernel_rfl
 | 24, _, [], _ => by unfold st73; as_aux_lemma => kernel_rfl
 | 24, _, [b0], _ => by unfold st73; as_aux_lemma => kernel_rfl
 | 24, _, [b0, b1], _ => by unfold st73; as_aux_lemma => kernel_rfl
 | 25, _, [], _ => by unfold st73; as_aux_lemma => kernel_rfl
 | 25, _, [b0], _ => by unfold st73; as_aux_lemma => kernel_rfl
 | 25, _, [b0, b1], _ => by unfold st73; as_aux_lemma => kernel_rfl
 | 26, _, [], _ => by unfold st73; as_aux_lemma => kernel_rfl
 | 26, _, [b0], _ => by unfold st73; as_aux_lemma => kernel_rfl
 | 26, _, [b0, b1], _ => by unfold st73; as_aux_lemma => kernel_rfl
 | 27, _, [], _ => by unfold st73; as_aux_lemma => kernel_rfl
 | 27, _, [b0], _ => by unfold st73; as_aux_lemma => kernel_rfl
 | 27, _, [b0, b1], _ => by unfold st73; as_aux_lemma => kernel_rfl
 | 28, _, [], _ => by unfold st73; as_aux_lemma => kernel_rfl
 | 28, _, [b0], _ => by unfold st73; as_aux_lemma => kernel_rfl
 | 28, _, [b0, b1], _ => by unfold st73; as_aux_lemma => kernel_rfl
 | 29, _, [], _ => by unfold st73; as_aux_lemma => kernel_rfl
 | 29, _, [b0], _ => by unfold st73; as_aux_lemma => kernel_rfl
 | 29, _, [b0, b1], _ => by unfold st73; as_aux_lemma => kernel_rfl
 | 30, _, [], _ => by unfold st73; as_aux_lemma => kernel_rfl
 | 30, _, [b0], _ => by unfold st73; as_aux_lemma => kernel_rfl
 | 30, _, [b0, b1], _ => by unfold st73; as_aux_lemma => kernel_rfl
 | 31, _, [], _ => by unfold st73; as_aux_lemma => kernel_rfl
 | 31, _, [b0], _ => by unfold st73; as_aux_lemma => kernel_rfl
 | 31, _, [b0, b1], _ => by unfold st73; as_aux_lemma => kernel_rfl
 | 32, _, [], _ => by unfold st73; as_aux_lemma => kernel_rfl
 | 32, _, [b0], _ => by unfold st73; as_aux_lemma => kernel_rfl
 | 32, _, [b0, b1], _ => by unfold st73; as_aux_lemma => kernel_rfl
 | 33, _, [], _ => by unfold st73; as_aux_lemma => kernel_rfl
 | 33, _, [b0], _ => by unfold st73; as_aux_lemma => kernel_rfl
 | 33, _, [b0, b1], _ => by unfold st73; as_aux_lemma => kernel_rfl
 | 34, _, [], _ => by unfold st73; as_aux_lemma => kernel_rfl
 | 34, _, [b0], _ => by unfold st73; as_aux_lemma => kernel_rfl
 | 34, _, [b0, b1], _ => by unfold st73; as_aux_lemma => kernel_rfl
 | 35, _, [], _ => by unfold st73; as_aux_lemma => kernel_rfl
 | 35, _, [b0], _ => by unfold st73; as_aux_lemma => kernel_rfl
 | 35, _, [b0, b1], _ => by unfold st73; as_aux_lemma => kernel_rfl
 | 36, _, [], _ => by unfold st73; as_aux_lemma => kernel_rfl
 | 36, _, [b0], _ => by unfold st73; as_aux_lemma => kernel_rfl
 | 36, _, [b0, b1], _ => by unfold st73; as_aux_lemma => kernel_rfl
 | 37, _, [], _ => by unfold st73; as_aux_lemma => kernel_rfl
 | 37, _, [b0], _ => by unfold st73; as_aux_lemma => kernel_rfl
 | 37, _, [b0, b1], _ => by unfold st73; as_aux_lemma => kernel_rfl
 | 38, _, [], _ => by unfold st73; as_aux_lemma => kernel_rfl
 | 38, _, [b0], _ => by unfold st73; as_aux_lemma => kernel_rfl
 | 38, _, [b0, b1], _ => by unfold st73; as_aux_lemma => kernel_rfl
 | 39, _, [], _ => by unfold st73; as_aux_lemma => kernel_rfl
 | 39, _, [b0], _ => by unfold st73; as_aux_lemma => kernel_rfl
 | 39, _, [b0, b1], _ => by unfold st73; as_aux_lemma => kernel_rfl
 | 40, _, [], _ => by unfold st73; as_aux_lemma => kernel_rfl
 | 40, _, [b0], _ => by unfold st73; as_aux_lemma => kernel_rfl
 | 40, _, [b0, b1], _ => by unfold st73; as_aux_lemma => kernel_rfl
 | 41, _, [], _ => by unfold st73; as_aux_lemma => kernel_rfl
 | 41, _, [b0], _ => by unfold st73; as_aux_lemma => kernel_rfl
 | 41, _, [b0, b1], _ => by unfold st73; as_aux_lemma => kernel_rfl
 | 42, _, [], _ => by unfold st73; as_aux_lemma => kernel_rfl
 | 42, _, [b0], _ => by unfold st73; as_aux_lemma => kernel_rfl
 | 42, _, [b0, b1], _ => by unfold st73; as_aux_lemma => kernel_rfl
 | 43, _, [], _ => by unfold st73; as_aux_lemma => kernel_rfl
 | 43, _, [b0], _ => by unfold st73; as_aux_lemma => kernel_rfl
 | 43, _, [b0, b1], _ => by unfold st73; as_aux_lemma => kernel_rfl
 | 44, _, [], _ => by unfold st73; as_aux_lemma => kernel_rfl
 | 44, _, [b0], _ => by unfold st73; as_aux_lemma => kernel_rfl
 | 44, _, [b0, b1], _ => by unfold st73; as_aux_lemma => kernel_rfl
 | 45, _, [], _ => by unfold st73; as_aux_lemma => kernel_rfl
 | 45, _, [b0], _ => by unfold st73; as_aux_lemma => kernel_rfl
 | 45, _, [b0, b1], _ => by unfold st73; as_aux_lemma => kernel_rfl
 | 46, _, [], _ => by unfold st73; as_aux_lemma => kernel_rfl
 | 46, _, [b0], _ => by unfold st73; as_aux_lemma => kernel_rfl
 | 46, _, [b0, b1], _ => by unfold st73; as_aux_lemma => kernel_rfl
 | 47, _, [], _ => by unfold st73; as_aux_lemma => kernel_rfl
 | 47, _, [b0], _ => by unfold st73; as_aux_lemma => kernel_rfl
 | 47, _, [b0, b1], _ => by unfold st73; as_aux_lemma => kernel_rfl
 | 48, _, [], _ => by unfold st73; as_aux_lemma => kernel_rfl
 | 48, _, [b0], _ => by unfold st73; as_aux_lemma => kernel_rfl
 | 48, _, [b0, b1], _ => by unfold st73; as_aux_lemma => kernel_rfl
 | 49, _, [], _ => by unfold st73; as_aux_lemma => kernel_rfl
 | 49, _, [b0], _ => by unfold st73; as_aux_lemma => kernel_rfl
 | 49, _, [b0, b1], _ => by unfold st73; as_aux_lemma => kernel_rfl
 | 50, _, [], _ => by unfold st73; as_aux_lemma => kernel_rfl
 | 50, _, [b0], _ => by unfold st73; as_aux_lemma => kernel_rfl
 | 50, _, [b0, b1], _ => by unfold st73; as_aux_lemma => kernel_rfl
 | 51, _, [], _ => by unfold st73; as_aux_lemma => kernel_rfl
 | 51, _, [b0], _ => by unfold st73; as_aux_lemma => kernel_rfl
 | 51, _, [b0, b1], _ => by unfold st73; as_aux_lemma => kernel_rfl
 | 52, _, [], _ => by unfold st73; as_aux_lemma => kernel_rfl
 | 52, _, [b0], _ => by unfold st73; as_aux_lemma => kernel_rfl
 | 52, _, [b0, b1], _ => by unfold st73; as_aux_lemma => kernel_rfl
 | 53, _, [], _ => by unfold st73; as_aux_lemma => kernel_rfl
 | 53, _, [b0], _ => by unfold st73; as_aux_lemma => kernel_rfl
 | 53, _, [b0, b1], _ => by unfold st73; as_aux_lemma => kernel_rfl
 | 54, _, [], _ => by unfold st73; as_aux_lemma => kernel_rfl
 | 54, _, [b0], _ => by unfold st73; as_aux_lemma => kernel_rfl
 | 54, _, [b0, b1], _ => by unfold st73; as_aux_lemma => kernel_rfl
 | 55, _, [], _ => by unfold st73; as_aux_lemma => kernel_rfl
 | 55, _, [b0], _ => by unfold st73; as_aux_lemma => kernel_rfl
 | 55, _, [b0, b1], _ => by unfold st73; as_aux_lemma => kernel_rfl
 | 56, _, [], _ => by unfold st73; as_aux_lemma => kernel_rfl
 | 56, _, [b0], _ => by unfold st73; as_aux_lemma => kernel_rfl
 | 56, _, [b0, b1], _ => by unfold st73; as_aux_lemma => kernel_rfl
 | 57, _, [], _ => by unfold st73; as_aux_lemma => kernel_rfl
 | 57, _, [b0], _ => by unfold st73; as_aux_lemma => kernel_rfl
 | 57, _, [b0, b1], _ => by unfold st73; as_aux_lemma => kernel_rfl
 | 58, _, [], _ => by unfold st73; as_aux_lemma => kernel_rfl
 | 58, _, [b0], _ => by unfold st73; as_aux_lemma => kernel_rfl
 | 58, _, [b0, b1], _ => by unfold st73; as_aux_lemma => kernel_rfl
 | 59, _, [], _ => by unfold st73; as_aux_lemma => kernel_rfl
 | 59, _, [b0], _ => by unfold st73; as_aux_lemma => kernel_rfl
 | 59, _, [b0, b1], _ => by unfold st73; as_aux_lemma => kernel_rfl
 | 60, _, [], _ => by unfold st73; as_aux_lemma => kernel_rfl
 | 60, _, [b0], _ => by unfold st73; as_aux_lemma => kernel_rfl
 | 60, _, [b0, b1], _ => by unfold st73; as_aux_lemma => kernel_rfl
 | 61, _, [], _ => by unfold st73; as_aux_lemma => kernel_rfl
 | 61, _, [b0], _ => by unfold st73; as_aux_lemma => kernel_rfl
 | 61, _, [b0, b1], _ => by unfold st73; as_aux_lemma => kernel_rfl
 | n + 62, h, _, _ => absurd h (by omega)
 | _, _, _ :: _ :: _ :: _, h => by simp at h
end
end Go.Am.Sto
