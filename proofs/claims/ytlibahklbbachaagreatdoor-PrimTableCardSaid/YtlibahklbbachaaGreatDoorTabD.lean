/- The table of the primitives: the law. -/
import Derived.Test.YtlibahklbbachaaGreatDoorTabC
set_option autoImplicit false
set_option maxRecDepth 100000
namespace Go.Am.Tab
open Go Go.Am Go.Proofs

def tailV (op : Int) : Option AV := byB (eqI (arOf op).1 (arOf op).1) (some (.bool (eqI (arOf op).2 (arOf op).2))) (some (.bool false))
theorem fin0 (op : Int) (n : List Nat) (m N : Nat) : L7 Tryz.prog m (E7 Tryz.prog m) (N + 1) (mkT op n (-1) 80) =
    byB (okOf (findF n forms)) (some (.bool false)) (byB (okOf (findF n forms)) (some (.bool false)) (tailV op)) := by kernel_rfl
theorem fin1 (op : Int) (n : List Nat) (j m N : Nat) : L7 Tryz.prog m (E7 Tryz.prog m) (N + 1) (mkT op n (.ofNat j) 80) =
    byB (okOf (findF n forms)) (byB (okOf (findF n forms)) (byB (Nat.beq (kOf (findF n forms)) j) (tailV op) (some (.bool false))) (tailV op)) (some (.bool false)) := by kernel_rfl

theorem eqI_self : ∀ a : Int, eqI a a = true
  | .ofNat a => by simp [eqI]
  | .negSucc a => by simp [eqI]
theorem tailV_eq (op : Int) : tailV op = some (.bool true) := by unfold tailV; rw [eqI_self, eqI_self]

theorem eqNs_iff : ∀ {a b : List Nat}, eqNs a b = true ↔ a = b
  | [], [] => by simp [eqNs]
  | [], _ :: _ => by simp [eqNs]
  | _ :: _, [] => by simp [eqNs]
  | a :: l, b :: r => by
    simp only [eqNs, List.cons.injEq]
    rcases Bool.eq_false_or_eq_true (a.beq b) with h | h
    · rw [cond_of_true h, eqNs_iff]
      have := Nat.eq_of_beq_eq_true h
      simp [this]
    · rw [cond_of_false h]
      have : a ≠ b := fun e => by subst e; simp at h
      simp [this]

/-- the number that is wanted, behind the names of a list -/
def wantOf (n : List Nat) : List (List Nat × Nat) → Int → Int
  | [], w => w
  | (x, i) :: l, w => wantOf n l (byB (eqNs x n) (.ofNat i) w)

theorem byB_same {α : Type} (u : Bool) (a : α) : byB u a a = a := by cases u <;> rfl
theorem byB_f {α β : Type} (u : Bool) (a b : α) (f : α → β) : byB u (f a) (f b) = f (byB u a b) := by cases u <;> rfl
/-- one name of the loop -/
def hitOf (x n : List Nat) (i : Nat) (w : Int) : Int := byB (eqNs x n) (.ofNat i) (byB (pct x) w (byB (eqNs (37 :: x) n) (.ofNat i) w))

theorem s0 (op want : Int) (n : List Nat) (m N : Nat) (k : KA (Option AV)) : L7 Tryz.prog m k (N + 1) (mkT op n want 0) = L7 Tryz.prog m k N (mkT op n (hitOf [43] n 0 want) 1) := by
  rw [r0]; unfold hitOf; cases eqNs [43] n <;> first | rfl | (cases eqNs [37, 43] n <;> rfl)
theorem s1 (op want : Int) (n : List Nat) (m N : Nat) (k : KA (Option AV)) : L7 Tryz.prog m k (N + 1) (mkT op n want 1) = L7 Tryz.prog m k N (mkT op n (hitOf [45] n 1 want) 2) := by
  rw [r1]; unfold hitOf; cases eqNs [45] n <;> first | rfl | (cases eqNs [37, 45] n <;> rfl)
theorem s2 (op want : Int) (n : List Nat) (m N : Nat) (k : KA (Option AV)) : L7 Tryz.prog m k (N + 1) (mkT op n want 2) = L7 Tryz.prog m k N (mkT op n (hitOf [42] n 2 want) 3) := by
  rw [r2]; unfold hitOf; cases eqNs [42] n <;> first | rfl | (cases eqNs [37, 42] n <;> rfl)
theorem s3 (op want : Int) (n : List Nat) (m N : Nat) (k : KA (Option AV)) : L7 Tryz.prog m k (N + 1) (mkT op n want 3) = L7 Tryz.prog m k N (mkT op n (hitOf [113, 117, 111, 116, 105, 101, 110, 116] n 3 want) 4) := by
  rw [r3]; unfold hitOf; cases eqNs [113, 117, 111, 116, 105, 101, 110, 116] n <;> first | rfl | (cases eqNs [37, 113, 117, 111, 116, 105, 101, 110, 116] n <;> rfl)
theorem s4 (op want : Int) (n : List Nat) (m N : Nat) (k : KA (Option AV)) : L7 Tryz.prog m k (N + 1) (mkT op n want 4) = L7 Tryz.prog m k N (mkT op n (hitOf [114, 101, 109, 97, 105, 110, 100, 101, 114] n 4 want) 5) := by
  rw [r4]; unfold hitOf; cases eqNs [114, 101, 109, 97, 105, 110, 100, 101, 114] n <;> first | rfl | (cases eqNs [37, 114, 101, 109, 97, 105, 110, 100, 101, 114] n <;> rfl)
theorem s5 (op want : Int) (n : List Nat) (m N : Nat) (k : KA (Option AV)) : L7 Tryz.prog m k (N + 1) (mkT op n want 5) = L7 Tryz.prog m k N (mkT op n (hitOf [109, 111, 100, 117, 108, 111] n 5 want) 6) := by
  rw [r5]; unfold hitOf; cases eqNs [109, 111, 100, 117, 108, 111] n <;> first | rfl | (cases eqNs [37, 109, 111, 100, 117, 108, 111] n <;> rfl)
theorem s6 (op want : Int) (n : List Nat) (m N : Nat) (k : KA (Option AV)) : L7 Tryz.prog m k (N + 1) (mkT op n want 6) = L7 Tryz.prog m k N (mkT op n (hitOf [61] n 6 want) 7) := by
  rw [r6]; unfold hitOf; cases eqNs [61] n <;> first | rfl | (cases eqNs [37, 61] n <;> rfl)
theorem s7 (op want : Int) (n : List Nat) (m N : Nat) (k : KA (Option AV)) : L7 Tryz.prog m k (N + 1) (mkT op n want 7) = L7 Tryz.prog m k N (mkT op n (hitOf [60] n 7 want) 8) := by
  rw [r7]; unfold hitOf; cases eqNs [60] n <;> first | rfl | (cases eqNs [37, 60] n <;> rfl)
theorem s8 (op want : Int) (n : List Nat) (m N : Nat) (k : KA (Option AV)) : L7 Tryz.prog m k (N + 1) (mkT op n want 8) = L7 Tryz.prog m k N (mkT op n (hitOf [62] n 8 want) 9) := by
  rw [r8]; unfold hitOf; cases eqNs [62] n <;> first | rfl | (cases eqNs [37, 62] n <;> rfl)
theorem s9 (op want : Int) (n : List Nat) (m N : Nat) (k : KA (Option AV)) : L7 Tryz.prog m k (N + 1) (mkT op n want 9) = L7 Tryz.prog m k N (mkT op n (hitOf [60, 61] n 9 want) 10) := by
  rw [r9]; unfold hitOf; cases eqNs [60, 61] n <;> first | rfl | (cases eqNs [37, 60, 61] n <;> rfl)
theorem s10 (op want : Int) (n : List Nat) (m N : Nat) (k : KA (Option AV)) : L7 Tryz.prog m k (N + 1) (mkT op n want 10) = L7 Tryz.prog m k N (mkT op n (hitOf [62, 61] n 10 want) 11) := by
  rw [r10]; unfold hitOf; cases eqNs [62, 61] n <;> first | rfl | (cases eqNs [37, 62, 61] n <;> rfl)
theorem s11 (op want : Int) (n : List Nat) (m N : Nat) (k : KA (Option AV)) : L7 Tryz.prog m k (N + 1) (mkT op n want 11) = L7 Tryz.prog m k N (mkT op n (hitOf [105, 110, 116, 101, 103, 101, 114, 63] n 11 want) 12) := by
  rw [r11]; unfold hitOf; cases eqNs [105, 110, 116, 101, 103, 101, 114, 63] n <;> first | rfl | (cases eqNs [37, 105, 110, 116, 101, 103, 101, 114, 63] n <;> rfl)
theorem s12 (op want : Int) (n : List Nat) (m N : Nat) (k : KA (Option AV)) : L7 Tryz.prog m k (N + 1) (mkT op n want 12) = L7 Tryz.prog m k N (mkT op n (hitOf [99, 111, 110, 115] n 12 want) 13) := by
  rw [r12]; unfold hitOf; cases eqNs [99, 111, 110, 115] n <;> first | rfl | (cases eqNs [37, 99, 111, 110, 115] n <;> rfl)
theorem s13 (op want : Int) (n : List Nat) (m N : Nat) (k : KA (Option AV)) : L7 Tryz.prog m k (N + 1) (mkT op n want 13) = L7 Tryz.prog m k N (mkT op n (hitOf [99, 97, 114] n 13 want) 14) := by
  rw [r13]; unfold hitOf; cases eqNs [99, 97, 114] n <;> first | rfl | (cases eqNs [37, 99, 97, 114] n <;> rfl)
theorem s14 (op want : Int) (n : List Nat) (m N : Nat) (k : KA (Option AV)) : L7 Tryz.prog m k (N + 1) (mkT op n want 14) = L7 Tryz.prog m k N (mkT op n (hitOf [99, 100, 114] n 14 want) 15) := by
  rw [r14]; unfold hitOf; cases eqNs [99, 100, 114] n <;> first | rfl | (cases eqNs [37, 99, 100, 114] n <;> rfl)
theorem s15 (op want : Int) (n : List Nat) (m N : Nat) (k : KA (Option AV)) : L7 Tryz.prog m k (N + 1) (mkT op n want 15) = L7 Tryz.prog m k N (mkT op n (hitOf [115, 101, 116, 45, 99, 97, 114, 33] n 15 want) 16) := by
  rw [r15]; unfold hitOf; cases eqNs [115, 101, 116, 45, 99, 97, 114, 33] n <;> first | rfl | (cases eqNs [37, 115, 101, 116, 45, 99, 97, 114, 33] n <;> rfl)
theorem s16 (op want : Int) (n : List Nat) (m N : Nat) (k : KA (Option AV)) : L7 Tryz.prog m k (N + 1) (mkT op n want 16) = L7 Tryz.prog m k N (mkT op n (hitOf [115, 101, 116, 45, 99, 100, 114, 33] n 16 want) 17) := by
  rw [r16]; unfold hitOf; cases eqNs [115, 101, 116, 45, 99, 100, 114, 33] n <;> first | rfl | (cases eqNs [37, 115, 101, 116, 45, 99, 100, 114, 33] n <;> rfl)
theorem s17 (op want : Int) (n : List Nat) (m N : Nat) (k : KA (Option AV)) : L7 Tryz.prog m k (N + 1) (mkT op n want 17) = L7 Tryz.prog m k N (mkT op n (hitOf [112, 97, 105, 114, 63] n 17 want) 18) := by
  rw [r17]; unfold hitOf; cases eqNs [112, 97, 105, 114, 63] n <;> first | rfl | (cases eqNs [37, 112, 97, 105, 114, 63] n <;> rfl)
theorem s18 (op want : Int) (n : List Nat) (m N : Nat) (k : KA (Option AV)) : L7 Tryz.prog m k (N + 1) (mkT op n want 18) = L7 Tryz.prog m k N (mkT op n (hitOf [110, 117, 108, 108, 63] n 18 want) 19) := by
  rw [r18]; unfold hitOf; cases eqNs [110, 117, 108, 108, 63] n <;> first | rfl | (cases eqNs [37, 110, 117, 108, 108, 63] n <;> rfl)
theorem s19 (op want : Int) (n : List Nat) (m N : Nat) (k : KA (Option AV)) : L7 Tryz.prog m k (N + 1) (mkT op n want 19) = L7 Tryz.prog m k N (mkT op n (hitOf [108, 105, 115, 116] n 19 want) 20) := by
  rw [r19]; unfold hitOf; cases eqNs [108, 105, 115, 116] n <;> first | rfl | (cases eqNs [37, 108, 105, 115, 116] n <;> rfl)
theorem s20 (op want : Int) (n : List Nat) (m N : Nat) (k : KA (Option AV)) : L7 Tryz.prog m k (N + 1) (mkT op n want 20) = L7 Tryz.prog m k N (mkT op n (hitOf [108, 105, 115, 116, 63] n 20 want) 21) := by
  rw [r20]; unfold hitOf; cases eqNs [108, 105, 115, 116, 63] n <;> first | rfl | (cases eqNs [37, 108, 105, 115, 116, 63] n <;> rfl)
theorem s21 (op want : Int) (n : List Nat) (m N : Nat) (k : KA (Option AV)) : L7 Tryz.prog m k (N + 1) (mkT op n want 21) = L7 Tryz.prog m k N (mkT op n (hitOf [108, 101, 110, 103, 116, 104] n 21 want) 22) := by
  rw [r21]; unfold hitOf; cases eqNs [108, 101, 110, 103, 116, 104] n <;> first | rfl | (cases eqNs [37, 108, 101, 110, 103, 116, 104] n <;> rfl)
theorem s22 (op want : Int) (n : List Nat) (m N : Nat) (k : KA (Option AV)) : L7 Tryz.prog m k (N + 1) (mkT op n want 22) = L7 Tryz.prog m k N (mkT op n (hitOf [97, 112, 112, 101, 110, 100] n 22 want) 23) := by
  rw [r22]; unfold hitOf; cases eqNs [97, 112, 112, 101, 110, 100] n <;> first | rfl | (cases eqNs [37, 97, 112, 112, 101, 110, 100] n <;> rfl)
theorem s23 (op want : Int) (n : List Nat) (m N : Nat) (k : KA (Option AV)) : L7 Tryz.prog m k (N + 1) (mkT op n want 23) = L7 Tryz.prog m k N (mkT op n (hitOf [118, 101, 99, 116, 111, 114] n 23 want) 24) := by
  rw [r23]; unfold hitOf; cases eqNs [118, 101, 99, 116, 111, 114] n <;> first | rfl | (cases eqNs [37, 118, 101, 99, 116, 111, 114] n <;> rfl)
theorem s24 (op want : Int) (n : List Nat) (m N : Nat) (k : KA (Option AV)) : L7 Tryz.prog m k (N + 1) (mkT op n want 24) = L7 Tryz.prog m k N (mkT op n (hitOf [109, 97, 107, 101, 45, 118, 101, 99, 116, 111, 114] n 24 want) 25) := by
  rw [r24]; unfold hitOf; cases eqNs [109, 97, 107, 101, 45, 118, 101, 99, 116, 111, 114] n <;> first | rfl | (cases eqNs [37, 109, 97, 107, 101, 45, 118, 101, 99, 116, 111, 114] n <;> rfl)
theorem s25 (op want : Int) (n : List Nat) (m N : Nat) (k : KA (Option AV)) : L7 Tryz.prog m k (N + 1) (mkT op n want 25) = L7 Tryz.prog m k N (mkT op n (hitOf [118, 101, 99, 116, 111, 114, 45, 114, 101, 102] n 25 want) 26) := by
  rw [r25]; unfold hitOf; cases eqNs [118, 101, 99, 116, 111, 114, 45, 114, 101, 102] n <;> first | rfl | (cases eqNs [37, 118, 101, 99, 116, 111, 114, 45, 114, 101, 102] n <;> rfl)
theorem s26 (op want : Int) (n : List Nat) (m N : Nat) (k : KA (Option AV)) : L7 Tryz.prog m k (N + 1) (mkT op n want 26) = L7 Tryz.prog m k N (mkT op n (hitOf [118, 101, 99, 116, 111, 114, 45, 115, 101, 116, 33] n 26 want) 27) := by
  rw [r26]; unfold hitOf; cases eqNs [118, 101, 99, 116, 111, 114, 45, 115, 101, 116, 33] n <;> first | rfl | (cases eqNs [37, 118, 101, 99, 116, 111, 114, 45, 115, 101, 116, 33] n <;> rfl)
theorem s27 (op want : Int) (n : List Nat) (m N : Nat) (k : KA (Option AV)) : L7 Tryz.prog m k (N + 1) (mkT op n want 27) = L7 Tryz.prog m k N (mkT op n (hitOf [118, 101, 99, 116, 111, 114, 45, 108, 101, 110, 103, 116, 104] n 27 want) 28) := by
  rw [r27]; unfold hitOf; cases eqNs [118, 101, 99, 116, 111, 114, 45, 108, 101, 110, 103, 116, 104] n <;> first | rfl | (cases eqNs [37, 118, 101, 99, 116, 111, 114, 45, 108, 101, 110, 103, 116, 104] n <;> rfl)
theorem s28 (op want : Int) (n : List Nat) (m N : Nat) (k : KA (Option AV)) : L7 Tryz.prog m k (N + 1) (mkT op n want 28) = L7 Tryz.prog m k N (mkT op n (hitOf [118, 101, 99, 116, 111, 114, 63] n 28 want) 29) := by
  rw [r28]; unfold hitOf; cases eqNs [118, 101, 99, 116, 111, 114, 63] n <;> first | rfl | (cases eqNs [37, 118, 101, 99, 116, 111, 114, 63] n <;> rfl)
theorem s29 (op want : Int) (n : List Nat) (m N : Nat) (k : KA (Option AV)) : L7 Tryz.prog m k (N + 1) (mkT op n want 29) = L7 Tryz.prog m k N (mkT op n (hitOf [108, 105, 115, 116, 45, 62, 118, 101, 99, 116, 111, 114] n 29 want) 30) := by
  rw [r29]; unfold hitOf; cases eqNs [108, 105, 115, 116, 45, 62, 118, 101, 99, 116, 111, 114] n <;> first | rfl | (cases eqNs [37, 108, 105, 115, 116, 45, 62, 118, 101, 99, 116, 111, 114] n <;> rfl)
theorem s30 (op want : Int) (n : List Nat) (m N : Nat) (k : KA (Option AV)) : L7 Tryz.prog m k (N + 1) (mkT op n want 30) = L7 Tryz.prog m k N (mkT op n (hitOf [118, 101, 99, 116, 111, 114, 45, 62, 108, 105, 115, 116] n 30 want) 31) := by
  rw [r30]; unfold hitOf; cases eqNs [118, 101, 99, 116, 111, 114, 45, 62, 108, 105, 115, 116] n <;> first | rfl | (cases eqNs [37, 118, 101, 99, 116, 111, 114, 45, 62, 108, 105, 115, 116] n <;> rfl)
theorem s31 (op want : Int) (n : List Nat) (m N : Nat) (k : KA (Option AV)) : L7 Tryz.prog m k (N + 1) (mkT op n want 31) = L7 Tryz.prog m k N (mkT op n (hitOf [101, 113, 63] n 31 want) 32) := by
  rw [r31]; unfold hitOf; cases eqNs [101, 113, 63] n <;> first | rfl | (cases eqNs [37, 101, 113, 63] n <;> rfl)
theorem s32 (op want : Int) (n : List Nat) (m N : Nat) (k : KA (Option AV)) : L7 Tryz.prog m k (N + 1) (mkT op n want 32) = L7 Tryz.prog m k N (mkT op n (hitOf [101, 113, 118, 63] n 32 want) 33) := by
  rw [r32]; unfold hitOf; cases eqNs [101, 113, 118, 63] n <;> first | rfl | (cases eqNs [37, 101, 113, 118, 63] n <;> rfl)
theorem s33 (op want : Int) (n : List Nat) (m N : Nat) (k : KA (Option AV)) : L7 Tryz.prog m k (N + 1) (mkT op n want 33) = L7 Tryz.prog m k N (mkT op n (hitOf [101, 113, 117, 97, 108, 63] n 33 want) 34) := by
  rw [r33]; unfold hitOf; cases eqNs [101, 113, 117, 97, 108, 63] n <;> first | rfl | (cases eqNs [37, 101, 113, 117, 97, 108, 63] n <;> rfl)
theorem s34 (op want : Int) (n : List Nat) (m N : Nat) (k : KA (Option AV)) : L7 Tryz.prog m k (N + 1) (mkT op n want 34) = L7 Tryz.prog m k N (mkT op n (hitOf [110, 111, 116] n 34 want) 35) := by
  rw [r34]; unfold hitOf; cases eqNs [110, 111, 116] n <;> first | rfl | (cases eqNs [37, 110, 111, 116] n <;> rfl)
theorem s35 (op want : Int) (n : List Nat) (m N : Nat) (k : KA (Option AV)) : L7 Tryz.prog m k (N + 1) (mkT op n want 35) = L7 Tryz.prog m k N (mkT op n (hitOf [98, 111, 111, 108, 101, 97, 110, 63] n 35 want) 36) := by
  rw [r35]; unfold hitOf; cases eqNs [98, 111, 111, 108, 101, 97, 110, 63] n <;> first | rfl | (cases eqNs [37, 98, 111, 111, 108, 101, 97, 110, 63] n <;> rfl)
theorem s36 (op want : Int) (n : List Nat) (m N : Nat) (k : KA (Option AV)) : L7 Tryz.prog m k (N + 1) (mkT op n want 36) = L7 Tryz.prog m k N (mkT op n (hitOf [115, 121, 109, 98, 111, 108, 63] n 36 want) 37) := by
  rw [r36]; unfold hitOf; cases eqNs [115, 121, 109, 98, 111, 108, 63] n <;> first | rfl | (cases eqNs [37, 115, 121, 109, 98, 111, 108, 63] n <;> rfl)
theorem s37 (op want : Int) (n : List Nat) (m N : Nat) (k : KA (Option AV)) : L7 Tryz.prog m k (N + 1) (mkT op n want 37) = L7 Tryz.prog m k N (mkT op n (hitOf [115, 121, 109, 98, 111, 108, 45, 62, 115, 116, 114, 105, 110, 103] n 37 want) 38) := by
  rw [r37]; unfold hitOf; cases eqNs [115, 121, 109, 98, 111, 108, 45, 62, 115, 116, 114, 105, 110, 103] n <;> first | rfl | (cases eqNs [37, 115, 121, 109, 98, 111, 108, 45, 62, 115, 116, 114, 105, 110, 103] n <;> rfl)
theorem s38 (op want : Int) (n : List Nat) (m N : Nat) (k : KA (Option AV)) : L7 Tryz.prog m k (N + 1) (mkT op n want 38) = L7 Tryz.prog m k N (mkT op n (hitOf [115, 116, 114, 105, 110, 103, 45, 62, 115, 121, 109, 98, 111, 108] n 38 want) 39) := by
  rw [r38]; unfold hitOf; cases eqNs [115, 116, 114, 105, 110, 103, 45, 62, 115, 121, 109, 98, 111, 108] n <;> first | rfl | (cases eqNs [37, 115, 116, 114, 105, 110, 103, 45, 62, 115, 121, 109, 98, 111, 108] n <;> rfl)
theorem s39 (op want : Int) (n : List Nat) (m N : Nat) (k : KA (Option AV)) : L7 Tryz.prog m k (N + 1) (mkT op n want 39) = L7 Tryz.prog m k N (mkT op n (hitOf [115, 116, 114, 105, 110, 103, 63] n 39 want) 40) := by
  rw [r39]; unfold hitOf; cases eqNs [115, 116, 114, 105, 110, 103, 63] n <;> first | rfl | (cases eqNs [37, 115, 116, 114, 105, 110, 103, 63] n <;> rfl)
theorem s40 (op want : Int) (n : List Nat) (m N : Nat) (k : KA (Option AV)) : L7 Tryz.prog m k (N + 1) (mkT op n want 40) = L7 Tryz.prog m k N (mkT op n (hitOf [115, 116, 114, 105, 110, 103, 45, 108, 101, 110, 103, 116, 104] n 40 want) 41) := by
  rw [r40]; unfold hitOf; cases eqNs [115, 116, 114, 105, 110, 103, 45, 108, 101, 110, 103, 116, 104] n <;> first | rfl | (cases eqNs [37, 115, 116, 114, 105, 110, 103, 45, 108, 101, 110, 103, 116, 104] n <;> rfl)
theorem s41 (op want : Int) (n : List Nat) (m N : Nat) (k : KA (Option AV)) : L7 Tryz.prog m k (N + 1) (mkT op n want 41) = L7 Tryz.prog m k N (mkT op n (hitOf [115, 116, 114, 105, 110, 103, 45, 114, 101, 102] n 41 want) 42) := by
  rw [r41]; unfold hitOf; cases eqNs [115, 116, 114, 105, 110, 103, 45, 114, 101, 102] n <;> first | rfl | (cases eqNs [37, 115, 116, 114, 105, 110, 103, 45, 114, 101, 102] n <;> rfl)
theorem s42 (op want : Int) (n : List Nat) (m N : Nat) (k : KA (Option AV)) : L7 Tryz.prog m k (N + 1) (mkT op n want 42) = L7 Tryz.prog m k N (mkT op n (hitOf [115, 116, 114, 105, 110, 103, 45, 97, 112, 112, 101, 110, 100] n 42 want) 43) := by
  rw [r42]; unfold hitOf; cases eqNs [115, 116, 114, 105, 110, 103, 45, 97, 112, 112, 101, 110, 100] n <;> first | rfl | (cases eqNs [37, 115, 116, 114, 105, 110, 103, 45, 97, 112, 112, 101, 110, 100] n <;> rfl)
theorem s43 (op want : Int) (n : List Nat) (m N : Nat) (k : KA (Option AV)) : L7 Tryz.prog m k (N + 1) (mkT op n want 43) = L7 Tryz.prog m k N (mkT op n (hitOf [115, 116, 114, 105, 110, 103, 61, 63] n 43 want) 44) := by
  rw [r43]; unfold hitOf; cases eqNs [115, 116, 114, 105, 110, 103, 61, 63] n <;> first | rfl | (cases eqNs [37, 115, 116, 114, 105, 110, 103, 61, 63] n <;> rfl)
theorem s44 (op want : Int) (n : List Nat) (m N : Nat) (k : KA (Option AV)) : L7 Tryz.prog m k (N + 1) (mkT op n want 44) = L7 Tryz.prog m k N (mkT op n (hitOf [115, 116, 114, 105, 110, 103, 45, 62, 108, 105, 115, 116] n 44 want) 45) := by
  rw [r44]; unfold hitOf; cases eqNs [115, 116, 114, 105, 110, 103, 45, 62, 108, 105, 115, 116] n <;> first | rfl | (cases eqNs [37, 115, 116, 114, 105, 110, 103, 45, 62, 108, 105, 115, 116] n <;> rfl)
theorem s45 (op want : Int) (n : List Nat) (m N : Nat) (k : KA (Option AV)) : L7 Tryz.prog m k (N + 1) (mkT op n want 45) = L7 Tryz.prog m k N (mkT op n (hitOf [108, 105, 115, 116, 45, 62, 115, 116, 114, 105, 110, 103] n 45 want) 46) := by
  rw [r45]; unfold hitOf; cases eqNs [108, 105, 115, 116, 45, 62, 115, 116, 114, 105, 110, 103] n <;> first | rfl | (cases eqNs [37, 108, 105, 115, 116, 45, 62, 115, 116, 114, 105, 110, 103] n <;> rfl)
theorem s46 (op want : Int) (n : List Nat) (m N : Nat) (k : KA (Option AV)) : L7 Tryz.prog m k (N + 1) (mkT op n want 46) = L7 Tryz.prog m k N (mkT op n (hitOf [99, 104, 97, 114, 63] n 46 want) 47) := by
  rw [r46]; unfold hitOf; cases eqNs [99, 104, 97, 114, 63] n <;> first | rfl | (cases eqNs [37, 99, 104, 97, 114, 63] n <;> rfl)
theorem s47 (op want : Int) (n : List Nat) (m N : Nat) (k : KA (Option AV)) : L7 Tryz.prog m k (N + 1) (mkT op n want 47) = L7 Tryz.prog m k N (mkT op n (hitOf [99, 104, 97, 114, 45, 62, 105, 110, 116, 101, 103, 101, 114] n 47 want) 48) := by
  rw [r47]; unfold hitOf; cases eqNs [99, 104, 97, 114, 45, 62, 105, 110, 116, 101, 103, 101, 114] n <;> first | rfl | (cases eqNs [37, 99, 104, 97, 114, 45, 62, 105, 110, 116, 101, 103, 101, 114] n <;> rfl)
theorem s48 (op want : Int) (n : List Nat) (m N : Nat) (k : KA (Option AV)) : L7 Tryz.prog m k (N + 1) (mkT op n want 48) = L7 Tryz.prog m k N (mkT op n (hitOf [105, 110, 116, 101, 103, 101, 114, 45, 62, 99, 104, 97, 114] n 48 want) 49) := by
  rw [r48]; unfold hitOf; cases eqNs [105, 110, 116, 101, 103, 101, 114, 45, 62, 99, 104, 97, 114] n <;> first | rfl | (cases eqNs [37, 105, 110, 116, 101, 103, 101, 114, 45, 62, 99, 104, 97, 114] n <;> rfl)
theorem s49 (op want : Int) (n : List Nat) (m N : Nat) (k : KA (Option AV)) : L7 Tryz.prog m k (N + 1) (mkT op n want 49) = L7 Tryz.prog m k N (mkT op n (hitOf [98, 111, 120] n 49 want) 50) := by
  rw [r49]; unfold hitOf; cases eqNs [98, 111, 120] n <;> first | rfl | (cases eqNs [37, 98, 111, 120] n <;> rfl)
theorem s50 (op want : Int) (n : List Nat) (m N : Nat) (k : KA (Option AV)) : L7 Tryz.prog m k (N + 1) (mkT op n want 50) = L7 Tryz.prog m k N (mkT op n (hitOf [117, 110, 98, 111, 120] n 50 want) 51) := by
  rw [r50]; unfold hitOf; cases eqNs [117, 110, 98, 111, 120] n <;> first | rfl | (cases eqNs [37, 117, 110, 98, 111, 120] n <;> rfl)
theorem s51 (op want : Int) (n : List Nat) (m N : Nat) (k : KA (Option AV)) : L7 Tryz.prog m k (N + 1) (mkT op n want 51) = L7 Tryz.prog m k N (mkT op n (hitOf [115, 101, 116, 45, 98, 111, 120, 33] n 51 want) 52) := by
  rw [r51]; unfold hitOf; cases eqNs [115, 101, 116, 45, 98, 111, 120, 33] n <;> first | rfl | (cases eqNs [37, 115, 101, 116, 45, 98, 111, 120, 33] n <;> rfl)
theorem s52 (op want : Int) (n : List Nat) (m N : Nat) (k : KA (Option AV)) : L7 Tryz.prog m k (N + 1) (mkT op n want 52) = L7 Tryz.prog m k N (mkT op n (hitOf [98, 111, 120, 63] n 52 want) 53) := by
  rw [r52]; unfold hitOf; cases eqNs [98, 111, 120, 63] n <;> first | rfl | (cases eqNs [37, 98, 111, 120, 63] n <;> rfl)
theorem s53 (op want : Int) (n : List Nat) (m N : Nat) (k : KA (Option AV)) : L7 Tryz.prog m k (N + 1) (mkT op n want 53) = L7 Tryz.prog m k N (mkT op n (hitOf [118, 111, 105, 100] n 53 want) 54) := by
  rw [r53]; unfold hitOf; cases eqNs [118, 111, 105, 100] n <;> first | rfl | (cases eqNs [37, 118, 111, 105, 100] n <;> rfl)
theorem s54 (op want : Int) (n : List Nat) (m N : Nat) (k : KA (Option AV)) : L7 Tryz.prog m k (N + 1) (mkT op n want 54) = L7 Tryz.prog m k N (mkT op n (hitOf [112, 114, 111, 99, 101, 100, 117, 114, 101, 63] n 54 want) 55) := by
  rw [r54]; unfold hitOf; cases eqNs [112, 114, 111, 99, 101, 100, 117, 114, 101, 63] n <;> first | rfl | (cases eqNs [37, 112, 114, 111, 99, 101, 100, 117, 114, 101, 63] n <;> rfl)
theorem s55 (op want : Int) (n : List Nat) (m N : Nat) (k : KA (Option AV)) : L7 Tryz.prog m k (N + 1) (mkT op n want 55) = L7 Tryz.prog m k N (mkT op n (hitOf [110, 117, 109, 98, 101, 114, 45, 62, 115, 116, 114, 105, 110, 103] n 55 want) 56) := by
  rw [r55]; unfold hitOf; cases eqNs [110, 117, 109, 98, 101, 114, 45, 62, 115, 116, 114, 105, 110, 103] n <;> first | rfl | (cases eqNs [37, 110, 117, 109, 98, 101, 114, 45, 62, 115, 116, 114, 105, 110, 103] n <;> rfl)
theorem s56 (op want : Int) (n : List Nat) (m N : Nat) (k : KA (Option AV)) : L7 Tryz.prog m k (N + 1) (mkT op n want 56) = L7 Tryz.prog m k N (mkT op n (hitOf [115, 116, 114, 105, 110, 103, 45, 62, 110, 117, 109, 98, 101, 114] n 56 want) 57) := by
  rw [r56]; unfold hitOf; cases eqNs [115, 116, 114, 105, 110, 103, 45, 62, 110, 117, 109, 98, 101, 114] n <;> first | rfl | (cases eqNs [37, 115, 116, 114, 105, 110, 103, 45, 62, 110, 117, 109, 98, 101, 114] n <;> rfl)
theorem s57 (op want : Int) (n : List Nat) (m N : Nat) (k : KA (Option AV)) : L7 Tryz.prog m k (N + 1) (mkT op n want 57) = L7 Tryz.prog m k N (mkT op n (hitOf [114, 101, 118, 101, 114, 115, 101] n 57 want) 58) := by
  rw [r57]; unfold hitOf; cases eqNs [114, 101, 118, 101, 114, 115, 101] n <;> first | rfl | (cases eqNs [37, 114, 101, 118, 101, 114, 115, 101] n <;> rfl)
theorem s58 (op want : Int) (n : List Nat) (m N : Nat) (k : KA (Option AV)) : L7 Tryz.prog m k (N + 1) (mkT op n want 58) = L7 Tryz.prog m k N (mkT op n (hitOf [115, 121, 110, 116, 97, 120, 63] n 58 want) 59) := by
  rw [r58]; unfold hitOf; cases eqNs [115, 121, 110, 116, 97, 120, 63] n <;> first | rfl | (cases eqNs [37, 115, 121, 110, 116, 97, 120, 63] n <;> rfl)
theorem s59 (op want : Int) (n : List Nat) (m N : Nat) (k : KA (Option AV)) : L7 Tryz.prog m k (N + 1) (mkT op n want 59) = L7 Tryz.prog m k N (mkT op n (hitOf [105, 100, 101, 110, 116, 105, 102, 105, 101, 114, 63] n 59 want) 60) := by
  rw [r59]; unfold hitOf; cases eqNs [105, 100, 101, 110, 116, 105, 102, 105, 101, 114, 63] n <;> first | rfl | (cases eqNs [37, 105, 100, 101, 110, 116, 105, 102, 105, 101, 114, 63] n <;> rfl)
theorem s60 (op want : Int) (n : List Nat) (m N : Nat) (k : KA (Option AV)) : L7 Tryz.prog m k (N + 1) (mkT op n want 60) = L7 Tryz.prog m k N (mkT op n (hitOf [115, 121, 110, 116, 97, 120, 45, 62, 100, 97, 116, 117, 109] n 60 want) 61) := by
  rw [r60]; unfold hitOf; cases eqNs [115, 121, 110, 116, 97, 120, 45, 62, 100, 97, 116, 117, 109] n <;> first | rfl | (cases eqNs [37, 115, 121, 110, 116, 97, 120, 45, 62, 100, 97, 116, 117, 109] n <;> rfl)
theorem s61 (op want : Int) (n : List Nat) (m N : Nat) (k : KA (Option AV)) : L7 Tryz.prog m k (N + 1) (mkT op n want 61) = L7 Tryz.prog m k N (mkT op n (hitOf [100, 97, 116, 117, 109, 45, 62, 115, 121, 110, 116, 97, 120] n 61 want) 62) := by
  rw [r61]; unfold hitOf; cases eqNs [100, 97, 116, 117, 109, 45, 62, 115, 121, 110, 116, 97, 120] n <;> first | rfl | (cases eqNs [37, 100, 97, 116, 117, 109, 45, 62, 115, 121, 110, 116, 97, 120] n <;> rfl)
theorem s62 (op want : Int) (n : List Nat) (m N : Nat) (k : KA (Option AV)) : L7 Tryz.prog m k (N + 1) (mkT op n want 62) = L7 Tryz.prog m k N (mkT op n (hitOf [115, 121, 110, 116, 97, 120, 45, 62, 108, 105, 115, 116] n 62 want) 63) := by
  rw [r62]; unfold hitOf; cases eqNs [115, 121, 110, 116, 97, 120, 45, 62, 108, 105, 115, 116] n <;> first | rfl | (cases eqNs [37, 115, 121, 110, 116, 97, 120, 45, 62, 108, 105, 115, 116] n <;> rfl)
theorem s63 (op want : Int) (n : List Nat) (m N : Nat) (k : KA (Option AV)) : L7 Tryz.prog m k (N + 1) (mkT op n want 63) = L7 Tryz.prog m k N (mkT op n (hitOf [98, 111, 117, 110, 100, 45, 105, 100, 101, 110, 116, 105, 102, 105, 101, 114, 61, 63] n 63 want) 64) := by
  rw [r63]; unfold hitOf; cases eqNs [98, 111, 117, 110, 100, 45, 105, 100, 101, 110, 116, 105, 102, 105, 101, 114, 61, 63] n <;> first | rfl | (cases eqNs [37, 98, 111, 117, 110, 100, 45, 105, 100, 101, 110, 116, 105, 102, 105, 101, 114, 61, 63] n <;> rfl)
theorem s64 (op want : Int) (n : List Nat) (m N : Nat) (k : KA (Option AV)) : L7 Tryz.prog m k (N + 1) (mkT op n want 64) = L7 Tryz.prog m k N (mkT op n (hitOf [97, 112, 112, 108, 121] n 64 want) 65) := by
  rw [r64]; unfold hitOf; cases eqNs [97, 112, 112, 108, 121] n <;> first | rfl | (cases eqNs [37, 97, 112, 112, 108, 121] n <;> rfl)
theorem s65 (op want : Int) (n : List Nat) (m N : Nat) (k : KA (Option AV)) : L7 Tryz.prog m k (N + 1) (mkT op n want 65) = L7 Tryz.prog m k N (mkT op n (hitOf [99, 97, 108, 108, 47, 99, 99] n 65 want) 66) := by
  rw [r65]; unfold hitOf; cases eqNs [99, 97, 108, 108, 47, 99, 99] n <;> first | rfl | (cases eqNs [37, 99, 97, 108, 108, 47, 99, 99] n <;> rfl)
theorem s66 (op want : Int) (n : List Nat) (m N : Nat) (k : KA (Option AV)) : L7 Tryz.prog m k (N + 1) (mkT op n want 66) = L7 Tryz.prog m k N (mkT op n (hitOf [118, 97, 108, 117, 101, 115] n 66 want) 67) := by
  rw [r66]; unfold hitOf; cases eqNs [118, 97, 108, 117, 101, 115] n <;> first | rfl | (cases eqNs [37, 118, 97, 108, 117, 101, 115] n <;> rfl)
theorem s67 (op want : Int) (n : List Nat) (m N : Nat) (k : KA (Option AV)) : L7 Tryz.prog m k (N + 1) (mkT op n want 67) = L7 Tryz.prog m k N (mkT op n (hitOf [99, 97, 108, 108, 45, 119, 105, 116, 104, 45, 118, 97, 108, 117, 101, 115] n 67 want) 68) := by
  rw [r67]; unfold hitOf; cases eqNs [99, 97, 108, 108, 45, 119, 105, 116, 104, 45, 118, 97, 108, 117, 101, 115] n <;> first | rfl | (cases eqNs [37, 99, 97, 108, 108, 45, 119, 105, 116, 104, 45, 118, 97, 108, 117, 101, 115] n <;> rfl)
theorem s68 (op want : Int) (n : List Nat) (m N : Nat) (k : KA (Option AV)) : L7 Tryz.prog m k (N + 1) (mkT op n want 68) = L7 Tryz.prog m k N (mkT op n (hitOf [100, 121, 110, 97, 109, 105, 99, 45, 119, 105, 110, 100] n 68 want) 69) := by
  rw [r68]; unfold hitOf; cases eqNs [100, 121, 110, 97, 109, 105, 99, 45, 119, 105, 110, 100] n <;> first | rfl | (cases eqNs [37, 100, 121, 110, 97, 109, 105, 99, 45, 119, 105, 110, 100] n <;> rfl)
theorem s69 (op want : Int) (n : List Nat) (m N : Nat) (k : KA (Option AV)) : L7 Tryz.prog m k (N + 1) (mkT op n want 69) = L7 Tryz.prog m k N (mkT op n (hitOf [119, 105, 116, 104, 45, 101, 120, 99, 101, 112, 116, 105, 111, 110, 45, 104, 97, 110, 100, 108, 101, 114] n 69 want) 70) := by
  rw [r69]; unfold hitOf; cases eqNs [119, 105, 116, 104, 45, 101, 120, 99, 101, 112, 116, 105, 111, 110, 45, 104, 97, 110, 100, 108, 101, 114] n <;> first | rfl | (cases eqNs [37, 119, 105, 116, 104, 45, 101, 120, 99, 101, 112, 116, 105, 111, 110, 45, 104, 97, 110, 100, 108, 101, 114] n <;> rfl)
theorem s70 (op want : Int) (n : List Nat) (m N : Nat) (k : KA (Option AV)) : L7 Tryz.prog m k (N + 1) (mkT op n want 70) = L7 Tryz.prog m k N (mkT op n (hitOf [114, 97, 105, 115, 101] n 70 want) 71) := by
  rw [r70]; unfold hitOf; cases eqNs [114, 97, 105, 115, 101] n <;> first | rfl | (cases eqNs [37, 114, 97, 105, 115, 101] n <;> rfl)
theorem s71 (op want : Int) (n : List Nat) (m N : Nat) (k : KA (Option AV)) : L7 Tryz.prog m k (N + 1) (mkT op n want 71) = L7 Tryz.prog m k N (mkT op n (hitOf [114, 97, 105, 115, 101, 45, 99, 111, 110, 116, 105, 110, 117, 97, 98, 108, 101] n 71 want) 72) := by
  rw [r71]; unfold hitOf; cases eqNs [114, 97, 105, 115, 101, 45, 99, 111, 110, 116, 105, 110, 117, 97, 98, 108, 101] n <;> first | rfl | (cases eqNs [37, 114, 97, 105, 115, 101, 45, 99, 111, 110, 116, 105, 110, 117, 97, 98, 108, 101] n <;> rfl)
theorem s72 (op want : Int) (n : List Nat) (m N : Nat) (k : KA (Option AV)) : L7 Tryz.prog m k (N + 1) (mkT op n want 72) = L7 Tryz.prog m k N (mkT op n (hitOf [100, 105, 115, 112, 108, 97, 121] n 72 want) 73) := by
  rw [r72]; unfold hitOf; cases eqNs [100, 105, 115, 112, 108, 97, 121] n <;> first | rfl | (cases eqNs [37, 100, 105, 115, 112, 108, 97, 121] n <;> rfl)
theorem s73 (op want : Int) (n : List Nat) (m N : Nat) (k : KA (Option AV)) : L7 Tryz.prog m k (N + 1) (mkT op n want 73) = L7 Tryz.prog m k N (mkT op n (hitOf [102, 114, 101, 101, 45, 105, 100, 101, 110, 116, 105, 102, 105, 101, 114, 61, 63] n 73 want) 74) := by
  rw [r73]; unfold hitOf; cases eqNs [102, 114, 101, 101, 45, 105, 100, 101, 110, 116, 105, 102, 105, 101, 114, 61, 63] n <;> first | rfl | (cases eqNs [37, 102, 114, 101, 101, 45, 105, 100, 101, 110, 116, 105, 102, 105, 101, 114, 61, 63] n <;> rfl)
theorem s74 (op want : Int) (n : List Nat) (m N : Nat) (k : KA (Option AV)) : L7 Tryz.prog m k (N + 1) (mkT op n want 74) = L7 Tryz.prog m k N (mkT op n (hitOf [103, 101, 110, 101, 114, 97, 116, 101, 45, 116, 101, 109, 112, 111, 114, 97, 114, 105, 101, 115] n 74 want) 75) := by
  rw [r74]; unfold hitOf; cases eqNs [103, 101, 110, 101, 114, 97, 116, 101, 45, 116, 101, 109, 112, 111, 114, 97, 114, 105, 101, 115] n <;> first | rfl | (cases eqNs [37, 103, 101, 110, 101, 114, 97, 116, 101, 45, 116, 101, 109, 112, 111, 114, 97, 114, 105, 101, 115] n <;> rfl)
theorem s75 (op want : Int) (n : List Nat) (m N : Nat) (k : KA (Option AV)) : L7 Tryz.prog m k (N + 1) (mkT op n want 75) = L7 Tryz.prog m k N (mkT op n (hitOf [37, 109, 97, 116, 99, 104] n 75 want) 76) := by
  rw [r75]; unfold hitOf; cases eqNs [37, 109, 97, 116, 99, 104] n <;> first | rfl | (cases eqNs [37, 37, 109, 97, 116, 99, 104] n <;> rfl)
theorem s76 (op want : Int) (n : List Nat) (m N : Nat) (k : KA (Option AV)) : L7 Tryz.prog m k (N + 1) (mkT op n want 76) = L7 Tryz.prog m k N (mkT op n (hitOf [37, 102, 105, 108, 108] n 76 want) 77) := by
  rw [r76]; unfold hitOf; cases eqNs [37, 102, 105, 108, 108] n <;> first | rfl | (cases eqNs [37, 37, 102, 105, 108, 108] n <;> rfl)
theorem s77 (op want : Int) (n : List Nat) (m N : Nat) (k : KA (Option AV)) : L7 Tryz.prog m k (N + 1) (mkT op n want 77) = L7 Tryz.prog m k N (mkT op n (hitOf [37, 103, 97, 116, 104, 101, 114] n 77 want) 78) := by
  rw [r77]; unfold hitOf; cases eqNs [37, 103, 97, 116, 104, 101, 114] n <;> first | rfl | (cases eqNs [37, 37, 103, 97, 116, 104, 101, 114] n <;> rfl)
theorem s78 (op want : Int) (n : List Nat) (m N : Nat) (k : KA (Option AV)) : L7 Tryz.prog m k (N + 1) (mkT op n want 78) = L7 Tryz.prog m k N (mkT op n (hitOf [37, 102, 111, 114, 109] n 78 want) 79) := by
  rw [r78]; unfold hitOf; cases eqNs [37, 102, 111, 114, 109] n <;> first | rfl | (cases eqNs [37, 37, 102, 111, 114, 109] n <;> rfl)
theorem s79 (op want : Int) (n : List Nat) (m N : Nat) (k : KA (Option AV)) : L7 Tryz.prog m k (N + 1) (mkT op n want 79) = L7 Tryz.prog m k N (mkT op n (hitOf [37, 117, 110, 102, 111, 114, 109] n 79 want) 80) := by
  rw [r79]; unfold hitOf; cases eqNs [37, 117, 110, 102, 111, 114, 109] n <;> first | rfl | (cases eqNs [37, 37, 117, 110, 102, 111, 114, 109] n <;> rfl)

theorem loop7 (op : Int) (n : List Nat) (m N : Nat) (k : KA (Option AV)) : L7 Tryz.prog m k (N + 81) (mkT op n (-1) 0) = L7 Tryz.prog m k (N + 1) (mkT op n ((hitOf [37, 117, 110, 102, 111, 114, 109] n 79 (hitOf [37, 102, 111, 114, 109] n 78 (hitOf [37, 103, 97, 116, 104, 101, 114] n 77 (hitOf [37, 102, 105, 108, 108] n 76 (hitOf [37, 109, 97, 116, 99, 104] n 75 (hitOf [103, 101, 110, 101, 114, 97, 116, 101, 45, 116, 101, 109, 112, 111, 114, 97, 114, 105, 101, 115] n 74 (hitOf [102, 114, 101, 101, 45, 105, 100, 101, 110, 116, 105, 102, 105, 101, 114, 61, 63] n 73 (hitOf [100, 105, 115, 112, 108, 97, 121] n 72 (hitOf [114, 97, 105, 115, 101, 45, 99, 111, 110, 116, 105, 110, 117, 97, 98, 108, 101] n 71 (hitOf [114, 97, 105, 115, 101] n 70 (hitOf [119, 105, 116, 104, 45, 101, 120, 99, 101, 112, 116, 105, 111, 110, 45, 104, 97, 110, 100, 108, 101, 114] n 69 (hitOf [100, 121, 110, 97, 109, 105, 99, 45, 119, 105, 110, 100] n 68 (hitOf [99, 97, 108, 108, 45, 119, 105, 116, 104, 45, 118, 97, 108, 117, 101, 115] n 67 (hitOf [118, 97, 108, 117, 101, 115] n 66 (hitOf [99, 97, 108, 108, 47, 99, 99] n 65 (hitOf [97, 112, 112, 108, 121] n 64 (hitOf [98, 111, 117, 110, 100, 45, 105, 100, 101, 110, 116, 105, 102, 105, 101, 114, 61, 63] n 63 (hitOf [115, 121, 110, 116, 97, 120, 45, 62, 108, 105, 115, 116] n 62 (hitOf [100, 97, 116, 117, 109, 45, 62, 115, 121, 110, 116, 97, 120] n 61 (hitOf [115, 121, 110, 116, 97, 120, 45, 62, 100, 97, 116, 117, 109] n 60 (hitOf [105, 100, 101, 110, 116, 105, 102, 105, 101, 114, 63] n 59 (hitOf [115, 121, 110, 116, 97, 120, 63] n 58 (hitOf [114, 101, 118, 101, 114, 115, 101] n 57 (hitOf [115, 116, 114, 105, 110, 103, 45, 62, 110, 117, 109, 98, 101, 114] n 56 (hitOf [110, 117, 109, 98, 101, 114, 45, 62, 115, 116, 114, 105, 110, 103] n 55 (hitOf [112, 114, 111, 99, 101, 100, 117, 114, 101, 63] n 54 (hitOf [118, 111, 105, 100] n 53 (hitOf [98, 111, 120, 63] n 52 (hitOf [115, 101, 116, 45, 98, 111, 120, 33] n 51 (hitOf [117, 110, 98, 111, 120] n 50 (hitOf [98, 111, 120] n 49 (hitOf [105, 110, 116, 101, 103, 101, 114, 45, 62, 99, 104, 97, 114] n 48 (hitOf [99, 104, 97, 114, 45, 62, 105, 110, 116, 101, 103, 101, 114] n 47 (hitOf [99, 104, 97, 114, 63] n 46 (hitOf [108, 105, 115, 116, 45, 62, 115, 116, 114, 105, 110, 103] n 45 (hitOf [115, 116, 114, 105, 110, 103, 45, 62, 108, 105, 115, 116] n 44 (hitOf [115, 116, 114, 105, 110, 103, 61, 63] n 43 (hitOf [115, 116, 114, 105, 110, 103, 45, 97, 112, 112, 101, 110, 100] n 42 (hitOf [115, 116, 114, 105, 110, 103, 45, 114, 101, 102] n 41 (hitOf [115, 116, 114, 105, 110, 103, 45, 108, 101, 110, 103, 116, 104] n 40 (hitOf [115, 116, 114, 105, 110, 103, 63] n 39 (hitOf [115, 116, 114, 105, 110, 103, 45, 62, 115, 121, 109, 98, 111, 108] n 38 (hitOf [115, 121, 109, 98, 111, 108, 45, 62, 115, 116, 114, 105, 110, 103] n 37 (hitOf [115, 121, 109, 98, 111, 108, 63] n 36 (hitOf [98, 111, 111, 108, 101, 97, 110, 63] n 35 (hitOf [110, 111, 116] n 34 (hitOf [101, 113, 117, 97, 108, 63] n 33 (hitOf [101, 113, 118, 63] n 32 (hitOf [101, 113, 63] n 31 (hitOf [118, 101, 99, 116, 111, 114, 45, 62, 108, 105, 115, 116] n 30 (hitOf [108, 105, 115, 116, 45, 62, 118, 101, 99, 116, 111, 114] n 29 (hitOf [118, 101, 99, 116, 111, 114, 63] n 28 (hitOf [118, 101, 99, 116, 111, 114, 45, 108, 101, 110, 103, 116, 104] n 27 (hitOf [118, 101, 99, 116, 111, 114, 45, 115, 101, 116, 33] n 26 (hitOf [118, 101, 99, 116, 111, 114, 45, 114, 101, 102] n 25 (hitOf [109, 97, 107, 101, 45, 118, 101, 99, 116, 111, 114] n 24 (hitOf [118, 101, 99, 116, 111, 114] n 23 (hitOf [97, 112, 112, 101, 110, 100] n 22 (hitOf [108, 101, 110, 103, 116, 104] n 21 (hitOf [108, 105, 115, 116, 63] n 20 (hitOf [108, 105, 115, 116] n 19 (hitOf [110, 117, 108, 108, 63] n 18 (hitOf [112, 97, 105, 114, 63] n 17 (hitOf [115, 101, 116, 45, 99, 100, 114, 33] n 16 (hitOf [115, 101, 116, 45, 99, 97, 114, 33] n 15 (hitOf [99, 100, 114] n 14 (hitOf [99, 97, 114] n 13 (hitOf [99, 111, 110, 115] n 12 (hitOf [105, 110, 116, 101, 103, 101, 114, 63] n 11 (hitOf [62, 61] n 10 (hitOf [60, 61] n 9 (hitOf [62] n 8 (hitOf [60] n 7 (hitOf [61] n 6 (hitOf [109, 111, 100, 117, 108, 111] n 5 (hitOf [114, 101, 109, 97, 105, 110, 100, 101, 114] n 4 (hitOf [113, 117, 111, 116, 105, 101, 110, 116] n 3 (hitOf [42] n 2 (hitOf [45] n 1 (hitOf [43] n 0 (-1)))))))))))))))))))))))))))))))))))))))))))))))))))))))))))))))))))))))))))))))))) 80) := by
  rw [s0, s1, s2, s3, s4, s5, s6, s7, s8, s9, s10, s11, s12, s13, s14, s15, s16, s17, s18, s19, s20, s21, s22, s23, s24, s25, s26, s27, s28, s29, s30, s31, s32, s33, s34, s35, s36, s37, s38, s39, s40, s41, s42, s43, s44, s45, s46, s47, s48, s49, s50, s51, s52, s53, s54, s55, s56, s57, s58, s59, s60, s61, s62, s63, s64, s65, s66, s67, s68, s69, s70, s71, s72, s73, s74, s75, s76, s77, s78, s79]
end Go.Am.Tab
