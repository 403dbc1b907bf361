/- The table of the primitives: the loop of the law. -/
import Derived.Test.YtlibahklbbachaaGreatDoorTabB
set_option autoImplicit false
set_option maxRecDepth 100000
namespace Go.Am.Tab
open Go Go.Am Go.Proofs

theorem ar22_in : ∀ k, k < 80 → arB Tryz.prog 22 (.ofNat k) = some (arV (.ofNat k))
  | 0, _ => by kernel_rfl
  | 1, _ => by kernel_rfl
  | 2, _ => by kernel_rfl
  | 3, _ => by kernel_rfl
  | 4, _ => by kernel_rfl
  | 5, _ => by kernel_rfl
  | 6, _ => by kernel_rfl
  | 7, _ => by kernel_rfl
  | 8, _ => by kernel_rfl
  | 9, _ => by kernel_rfl
  | 10, _ => by kernel_rfl
  | 11, _ => by kernel_rfl
  | 12, _ => by kernel_rfl
  | 13, _ => by kernel_rfl
  | 14, _ => by kernel_rfl
  | 15, _ => by kernel_rfl
  | 16, _ => by kernel_rfl
  | 17, _ => by kernel_rfl
  | 18, _ => by kernel_rfl
  | 19, _ => by kernel_rfl
  | 20, _ => by kernel_rfl
  | 21, _ => by kernel_rfl
  | 22, _ => by kernel_rfl
  | 23, _ => by kernel_rfl
  | 24, _ => by kernel_rfl
  | 25, _ => by kernel_rfl
  | 26, _ => by kernel_rfl
  | 27, _ => by kernel_rfl
  | 28, _ => by kernel_rfl
  | 29, _ => by kernel_rfl
  | 30, _ => by kernel_rfl
  | 31, _ => by kernel_rfl
  | 32, _ => by kernel_rfl
  | 33, _ => by kernel_rfl
  | 34, _ => by kernel_rfl
  | 35, _ => by kernel_rfl
  | 36, _ => by kernel_rfl
  | 37, _ => by kernel_rfl
  | 38, _ => by kernel_rfl
  | 39, _ => by kernel_rfl
  | 40, _ => by kernel_rfl
  | 41, _ => by kernel_rfl
  | 42, _ => by kernel_rfl
  | 43, _ => by kernel_rfl
  | 44, _ => by kernel_rfl
  | 45, _ => by kernel_rfl
  | 46, _ => by kernel_rfl
  | 47, _ => by kernel_rfl
  | 48, _ => by kernel_rfl
  | 49, _ => by kernel_rfl
  | 50, _ => by kernel_rfl
  | 51, _ => by kernel_rfl
  | 52, _ => by kernel_rfl
  | 53, _ => by kernel_rfl
  | 54, _ => by kernel_rfl
  | 55, _ => by kernel_rfl
  | 56, _ => by kernel_rfl
  | 57, _ => by kernel_rfl
  | 58, _ => by kernel_rfl
  | 59, _ => by kernel_rfl
  | 60, _ => by kernel_rfl
  | 61, _ => by kernel_rfl
  | 62, _ => by kernel_rfl
  | 63, _ => by kernel_rfl
  | 64, _ => by kernel_rfl
  | 65, _ => by kernel_rfl
  | 66, _ => by kernel_rfl
  | 67, _ => by kernel_rfl
  | 68, _ => by kernel_rfl
  | 69, _ => by kernel_rfl
  | 70, _ => by kernel_rfl
  | 71, _ => by kernel_rfl
  | 72, _ => by kernel_rfl
  | 73, _ => by kernel_rfl
  | 74, _ => by kernel_rfl
  | 75, _ => by kernel_rfl
  | 76, _ => by kernel_rfl
  | 77, _ => by kernel_rfl
  | 78, _ => by kernel_rfl
  | 79, _ => by kernel_rfl
  | n + 80, h => absurd h (by omega)
theorem ar22 : ∀ op, arB Tryz.prog 22 op = some (arV op)
  | .negSucc m => neg22 m
  | .ofNat k => by
    rcases Nat.lt_or_ge k 80 with h | h
    · exact ar22_in k h
    · obtain ⟨m, rfl⟩ : ∃ m, k = m + 80 := ⟨k - 80, by omega⟩
      exact big22 m

theorem ar12_in : ∀ k, k < 80 → arB Tryz.prog 12 (.ofNat k) = some (arV (.ofNat k))
  | 0, _ => by kernel_rfl
  | 1, _ => by kernel_rfl
  | 2, _ => by kernel_rfl
  | 3, _ => by kernel_rfl
  | 4, _ => by kernel_rfl
  | 5, _ => by kernel_rfl
  | 6, _ => by kernel_rfl
  | 7, _ => by kernel_rfl
  | 8, _ => by kernel_rfl
  | 9, _ => by kernel_rfl
  | 10, _ => by kernel_rfl
  | 11, _ => by kernel_rfl
  | 12, _ => by kernel_rfl
  | 13, _ => by kernel_rfl
  | 14, _ => by kernel_rfl
  | 15, _ => by kernel_rfl
  | 16, _ => by kernel_rfl
  | 17, _ => by kernel_rfl
  | 18, _ => by kernel_rfl
  | 19, _ => by kernel_rfl
  | 20, _ => by kernel_rfl
  | 21, _ => by kernel_rfl
  | 22, _ => by kernel_rfl
  | 23, _ => by kernel_rfl
  | 24, _ => by kernel_rfl
  | 25, _ => by kernel_rfl
  | 26, _ => by kernel_rfl
  | 27, _ => by kernel_rfl
  | 28, _ => by kernel_rfl
  | 29, _ => by kernel_rfl
  | 30, _ => by kernel_rfl
  | 31, _ => by kernel_rfl
  | 32, _ => by kernel_rfl
  | 33, _ => by kernel_rfl
  | 34, _ => by kernel_rfl
  | 35, _ => by kernel_rfl
  | 36, _ => by kernel_rfl
  | 37, _ => by kernel_rfl
  | 38, _ => by kernel_rfl
  | 39, _ => by kernel_rfl
  | 40, _ => by kernel_rfl
  | 41, _ => by kernel_rfl
  | 42, _ => by kernel_rfl
  | 43, _ => by kernel_rfl
  | 44, _ => by kernel_rfl
  | 45, _ => by kernel_rfl
  | 46, _ => by kernel_rfl
  | 47, _ => by kernel_rfl
  | 48, _ => by kernel_rfl
  | 49, _ => by kernel_rfl
  | 50, _ => by kernel_rfl
  | 51, _ => by kernel_rfl
  | 52, _ => by kernel_rfl
  | 53, _ => by kernel_rfl
  | 54, _ => by kernel_rfl
  | 55, _ => by kernel_rfl
  | 56, _ => by kernel_rfl
  | 57, _ => by kernel_rfl
  | 58, _ => by kernel_rfl
  | 59, _ => by kernel_rfl
  | 60, _ => by kernel_rfl
  | 61, _ => by kernel_rfl
  | 62, _ => by kernel_rfl
  | 63, _ => by kernel_rfl
  | 64, _ => by kernel_rfl
  | 65, _ => by kernel_rfl
  | 66, _ => by kernel_rfl
  | 67, _ => by kernel_rfl
  | 68, _ => by kernel_rfl
  | 69, _ => by kernel_rfl
  | 70, _ => by kernel_rfl
  | 71, _ => by kernel_rfl
  | 72, _ => by kernel_rfl
  | 73, _ => by kernel_rfl
  | 74, _ => by kernel_rfl
  | 75, _ => by kernel_rfl
  | 76, _ => by kernel_rfl
  | 77, _ => by kernel_rfl
  | 78, _ => by kernel_rfl
  | 79, _ => by kernel_rfl
  | n + 80, h => absurd h (by omega)
theorem ar12 : ∀ op, arB Tryz.prog 12 op = some (arV op)
  | .negSucc m => neg12 m
  | .ofNat k => by
    rcases Nat.lt_or_ge k 80 with h | h
    · exact ar12_in k h
    · obtain ⟨m, rfl⟩ : ∃ m, k = m + 80 := ⟨k - 80, by omega⟩
      exact big12 m


def findF (n : List Nat) : List (List Nat × Nat) → Option Nat
  | [] => none
  | (x, i) :: l => byB (eqNs x n) (some i) (findF n l)
def kOf : Option Nat → Nat
  | some k => k
  | none => 0
def okOf : Option Nat → Bool
  | some _ => true
  | none => false
def forms : List (List Nat × Nat) := formsFrom names 0
def numV (n : List Nat) : AV := .tup [.int .i64 (.ofNat (kOf (findF n forms))), .bool (okOf (findF n forms))]
theorem tree_num (n : List Nat) : ∀ l, treeOf n (some lostV) l = some (.tup [.int .i64 (.ofNat (kOf (findF n l))), .bool (okOf (findF n l))])
  | [] => rfl
  | (x, i) :: l => by
    simp only [treeOf, findF]
    cases eqNs x n with
    | true => rfl
    | false => exact tree_num n l

def F19 : List AV → Option AV
  | [.str n] => some (numV n)
  | _ => none
def FAr : List AV → Option AV
  | [.int .i64 op] => some (arV op)
  | _ => none
def F20 : List AV → Option AV
  | [] => some namesV
  | _ => none
def modelV : AV := .lst (names.map .str) 80 true false
def F21 : List AV → Option AV
  | [] => some modelV
  | _ => none
def F9 : List AV → Option AV
  | [] => some (.bool true)
  | _ => none
def XC : Known := (((((XN.add 19 (pureX F19)).add 22 (pureX FAr)).add 12 (pureX FAr)).add 20 (pureX F20)).add 21 (pureX F21)).add 9 (pureX F9)

def D7 : Live := fun i => bif i.beq 0 then some [0, 1, 5, 6, 7, 8] else none
def mkT (op : Int) (n : List Nat) (want : Int) (i : Nat) : T :=
  ⟨slots [(0, .int .i64 op), (1, .str n), (5, namesV), (6, modelV), (7, .int .i64 want), (8, .int .i64 (.ofNat i))] .nil, 120, [], .no⟩
def CF7 (P : Program) : CF := callN P G0 XC 0 5
def B7 (P : Program) (m : Nat) : KA (Option AV) → T → St → Option AV := loopBody P G0 (CF7 P) D7 byB none m 7
def L7 (P : Program) (m : Nat) (k : KA (Option AV)) (N : Nat) (t : T) : Option AV := loopK none (D7 0) (B7 P m) k N t St.empty
def E7 (P : Program) (m : Nat) : KA (Option AV) := loopEnd P G0 (CF7 P) D7 byB Res.val? m 7

theorem start7 (op : Int) (n : List Nat) (N : Nat) : bodyK Tryz.prog G0 (CF7 Tryz.prog) D7 byB Res.val? N Tryz.prog.funcs[7]? [.int .i64 op, .str n] St.empty = L7 Tryz.prog N (E7 Tryz.prog N) N (mkT op n (-1) 0) := by kernel_rfl

/-- what one name does to the number that is wanted -/
def step7 (x n : List Nat) (i : Nat) (want : Int) (f : Int → Option AV) : Option AV :=
  byB (eqNs x n) (f (.ofNat i)) (bif pct x then f want else byB (eqNs (37 :: x) n) (f (.ofNat i)) (f want))

theorem r0 (op want : Int) (n : List Nat) (m N : Nat) (k : KA (Option AV)) : L7 Tryz.prog m k (N + 1) (mkT op n want 0) = byB (eqNs [43] n) (L7 Tryz.prog m k N (mkT op n (.ofNat 0) 1)) (byB (eqNs [37, 43] n) (L7 Tryz.prog m k N (mkT op n (.ofNat 0) 1)) (L7 Tryz.prog m k N (mkT op n want 1))) := by kernel_rfl
theorem r1 (op want : Int) (n : List Nat) (m N : Nat) (k : KA (Option AV)) : L7 Tryz.prog m k (N + 1) (mkT op n want 1) = byB (eqNs [45] n) (L7 Tryz.prog m k N (mkT op n (.ofNat 1) 2)) (byB (eqNs [37, 45] n) (L7 Tryz.prog m k N (mkT op n (.ofNat 1) 2)) (L7 Tryz.prog m k N (mkT op n want 2))) := by kernel_rfl
theorem r2 (op want : Int) (n : List Nat) (m N : Nat) (k : KA (Option AV)) : L7 Tryz.prog m k (N + 1) (mkT op n want 2) = byB (eqNs [42] n) (L7 Tryz.prog m k N (mkT op n (.ofNat 2) 3)) (byB (eqNs [37, 42] n) (L7 Tryz.prog m k N (mkT op n (.ofNat 2) 3)) (L7 Tryz.prog m k N (mkT op n want 3))) := by kernel_rfl
theorem r3 (op want : Int) (n : List Nat) (m N : Nat) (k : KA (Option AV)) : L7 Tryz.prog m k (N + 1) (mkT op n want 3) = byB (eqNs [113, 117, 111, 116, 105, 101, 110, 116] n) (L7 Tryz.prog m k N (mkT op n (.ofNat 3) 4)) (byB (eqNs [37, 113, 117, 111, 116, 105, 101, 110, 116] n) (L7 Tryz.prog m k N (mkT op n (.ofNat 3) 4)) (L7 Tryz.prog m k N (mkT op n want 4))) := by kernel_rfl
theorem r4 (op want : Int) (n : List Nat) (m N : Nat) (k : KA (Option AV)) : L7 Tryz.prog m k (N + 1) (mkT op n want 4) = byB (eqNs [114, 101, 109, 97, 105, 110, 100, 101, 114] n) (L7 Tryz.prog m k N (mkT op n (.ofNat 4) 5)) (byB (eqNs [37, 114, 101, 109, 97, 105, 110, 100, 101, 114] n) (L7 Tryz.prog m k N (mkT op n (.ofNat 4) 5)) (L7 Tryz.prog m k N (mkT op n want 5))) := by kernel_rfl
theorem r5 (op want : Int) (n : List Nat) (m N : Nat) (k : KA (Option AV)) : L7 Tryz.prog m k (N + 1) (mkT op n want 5) = byB (eqNs [109, 111, 100, 117, 108, 111] n) (L7 Tryz.prog m k N (mkT op n (.ofNat 5) 6)) (byB (eqNs [37, 109, 111, 100, 117, 108, 111] n) (L7 Tryz.prog m k N (mkT op n (.ofNat 5) 6)) (L7 Tryz.prog m k N (mkT op n want 6))) := by kernel_rfl
theorem r6 (op want : Int) (n : List Nat) (m N : Nat) (k : KA (Option AV)) : L7 Tryz.prog m k (N + 1) (mkT op n want 6) = byB (eqNs [61] n) (L7 Tryz.prog m k N (mkT op n (.ofNat 6) 7)) (byB (eqNs [37, 61] n) (L7 Tryz.prog m k N (mkT op n (.ofNat 6) 7)) (L7 Tryz.prog m k N (mkT op n want 7))) := by kernel_rfl
theorem r7 (op want : Int) (n : List Nat) (m N : Nat) (k : KA (Option AV)) : L7 Tryz.prog m k (N + 1) (mkT op n want 7) = byB (eqNs [60] n) (L7 Tryz.prog m k N (mkT op n (.ofNat 7) 8)) (byB (eqNs [37, 60] n) (L7 Tryz.prog m k N (mkT op n (.ofNat 7) 8)) (L7 Tryz.prog m k N (mkT op n want 8))) := by kernel_rfl
theorem r8 (op want : Int) (n : List Nat) (m N : Nat) (k : KA (Option AV)) : L7 Tryz.prog m k (N + 1) (mkT op n want 8) = byB (eqNs [62] n) (L7 Tryz.prog m k N (mkT op n (.ofNat 8) 9)) (byB (eqNs [37, 62] n) (L7 Tryz.prog m k N (mkT op n (.ofNat 8) 9)) (L7 Tryz.prog m k N (mkT op n want 9))) := by kernel_rfl
theorem r9 (op want : Int) (n : List Nat) (m N : Nat) (k : KA (Option AV)) : L7 Tryz.prog m k (N + 1) (mkT op n want 9) = byB (eqNs [60, 61] n) (L7 Tryz.prog m k N (mkT op n (.ofNat 9) 10)) (byB (eqNs [37, 60, 61] n) (L7 Tryz.prog m k N (mkT op n (.ofNat 9) 10)) (L7 Tryz.prog m k N (mkT op n want 10))) := by kernel_rfl
theorem r10 (op want : Int) (n : List Nat) (m N : Nat) (k : KA (Option AV)) : L7 Tryz.prog m k (N + 1) (mkT op n want 10) = byB (eqNs [62, 61] n) (L7 Tryz.prog m k N (mkT op n (.ofNat 10) 11)) (byB (eqNs [37, 62, 61] n) (L7 Tryz.prog m k N (mkT op n (.ofNat 10) 11)) (L7 Tryz.prog m k N (mkT op n want 11))) := by kernel_rfl
theorem r11 (op want : Int) (n : List Nat) (m N : Nat) (k : KA (Option AV)) : L7 Tryz.prog m k (N + 1) (mkT op n want 11) = byB (eqNs [105, 110, 116, 101, 103, 101, 114, 63] n) (L7 Tryz.prog m k N (mkT op n (.ofNat 11) 12)) (byB (eqNs [37, 105, 110, 116, 101, 103, 101, 114, 63] n) (L7 Tryz.prog m k N (mkT op n (.ofNat 11) 12)) (L7 Tryz.prog m k N (mkT op n want 12))) := by kernel_rfl
theorem r12 (op want : Int) (n : List Nat) (m N : Nat) (k : KA (Option AV)) : L7 Tryz.prog m k (N + 1) (mkT op n want 12) = byB (eqNs [99, 111, 110, 115] n) (L7 Tryz.prog m k N (mkT op n (.ofNat 12) 13)) (byB (eqNs [37, 99, 111, 110, 115] n) (L7 Tryz.prog m k N (mkT op n (.ofNat 12) 13)) (L7 Tryz.prog m k N (mkT op n want 13))) := by kernel_rfl
theorem r13 (op want : Int) (n : List Nat) (m N : Nat) (k : KA (Option AV)) : L7 Tryz.prog m k (N + 1) (mkT op n want 13) = byB (eqNs [99, 97, 114] n) (L7 Tryz.prog m k N (mkT op n (.ofNat 13) 14)) (byB (eqNs [37, 99, 97, 114] n) (L7 Tryz.prog m k N (mkT op n (.ofNat 13) 14)) (L7 Tryz.prog m k N (mkT op n want 14))) := by kernel_rfl
theorem r14 (op want : Int) (n : List Nat) (m N : Nat) (k : KA (Option AV)) : L7 Tryz.prog m k (N + 1) (mkT op n want 14) = byB (eqNs [99, 100, 114] n) (L7 Tryz.prog m k N (mkT op n (.ofNat 14) 15)) (byB (eqNs [37, 99, 100, 114] n) (L7 Tryz.prog m k N (mkT op n (.ofNat 14) 15)) (L7 Tryz.prog m k N (mkT op n want 15))) := by kernel_rfl
theorem r15 (op want : Int) (n : List Nat) (m N : Nat) (k : KA (Option AV)) : L7 Tryz.prog m k (N + 1) (mkT op n want 15) = byB (eqNs [115, 101, 116, 45, 99, 97, 114, 33] n) (L7 Tryz.prog m k N (mkT op n (.ofNat 15) 16)) (byB (eqNs [37, 115, 101, 116, 45, 99, 97, 114, 33] n) (L7 Tryz.prog m k N (mkT op n (.ofNat 15) 16)) (L7 Tryz.prog m k N (mkT op n want 16))) := by kernel_rfl
theorem r16 (op want : Int) (n : List Nat) (m N : Nat) (k : KA (Option AV)) : L7 Tryz.prog m k (N + 1) (mkT op n want 16) = byB (eqNs [115, 101, 116, 45, 99, 100, 114, 33] n) (L7 Tryz.prog m k N (mkT op n (.ofNat 16) 17)) (byB (eqNs [37, 115, 101, 116, 45, 99, 100, 114, 33] n) (L7 Tryz.prog m k N (mkT op n (.ofNat 16) 17)) (L7 Tryz.prog m k N (mkT op n want 17))) := by kernel_rfl
theorem r17 (op want : Int) (n : List Nat) (m N : Nat) (k : KA (Option AV)) : L7 Tryz.prog m k (N + 1) (mkT op n want 17) = byB (eqNs [112, 97, 105, 114, 63] n) (L7 Tryz.prog m k N (mkT op n (.ofNat 17) 18)) (byB (eqNs [37, 112, 97, 105, 114, 63] n) (L7 Tryz.prog m k N (mkT op n (.ofNat 17) 18)) (L7 Tryz.prog m k N (mkT op n want 18))) := by kernel_rfl
theorem r18 (op want : Int) (n : List Nat) (m N : Nat) (k : KA (Option AV)) : L7 Tryz.prog m k (N + 1) (mkT op n want 18) = byB (eqNs [110, 117, 108, 108, 63] n) (L7 Tryz.prog m k N (mkT op n (.ofNat 18) 19)) (byB (eqNs [37, 110, 117, 108, 108, 63] n) (L7 Tryz.prog m k N (mkT op n (.ofNat 18) 19)) (L7 Tryz.prog m k N (mkT op n want 19))) := by kernel_rfl
theorem r19 (op want : Int) (n : List Nat) (m N : Nat) (k : KA (Option AV)) : L7 Tryz.prog m k (N + 1) (mkT op n want 19) = byB (eqNs [108, 105, 115, 116] n) (L7 Tryz.prog m k N (mkT op n (.ofNat 19) 20)) (byB (eqNs [37, 108, 105, 115, 116] n) (L7 Tryz.prog m k N (mkT op n (.ofNat 19) 20)) (L7 Tryz.prog m k N (mkT op n want 20))) := by kernel_rfl
theorem r20 (op want : Int) (n : List Nat) (m N : Nat) (k : KA (Option AV)) : L7 Tryz.prog m k (N + 1) (mkT op n want 20) = byB (eqNs [108, 105, 115, 116, 63] n) (L7 Tryz.prog m k N (mkT op n (.ofNat 20) 21)) (byB (eqNs [37, 108, 105, 115, 116, 63] n) (L7 Tryz.prog m k N (mkT op n (.ofNat 20) 21)) (L7 Tryz.prog m k N (mkT op n want 21))) := by kernel_rfl
theorem r21 (op want : Int) (n : List Nat) (m N : Nat) (k : KA (Option AV)) : L7 Tryz.prog m k (N + 1) (mkT op n want 21) = byB (eqNs [108, 101, 110, 103, 116, 104] n) (L7 Tryz.prog m k N (mkT op n (.ofNat 21) 22)) (byB (eqNs [37, 108, 101, 110, 103, 116, 104] n) (L7 Tryz.prog m k N (mkT op n (.ofNat 21) 22)) (L7 Tryz.prog m k N (mkT op n want 22))) := by kernel_rfl
theorem r22 (op want : Int) (n : List Nat) (m N : Nat) (k : KA (Option AV)) : L7 Tryz.prog m k (N + 1) (mkT op n want 22) = byB (eqNs [97, 112, 112, 101, 110, 100] n) (L7 Tryz.prog m k N (mkT op n (.ofNat 22) 23)) (byB (eqNs [37, 97, 112, 112, 101, 110, 100] n) (L7 Tryz.prog m k N (mkT op n (.ofNat 22) 23)) (L7 Tryz.prog m k N (mkT op n want 23))) := by kernel_rfl
theorem r23 (op want : Int) (n : List Nat) (m N : Nat) (k : KA (Option AV)) : L7 Tryz.prog m k (N + 1) (mkT op n want 23) = byB (eqNs [118, 101, 99, 116, 111, 114] n) (L7 Tryz.prog m k N (mkT op n (.ofNat 23) 24)) (byB (eqNs [37, 118, 101, 99, 116, 111, 114] n) (L7 Tryz.prog m k N (mkT op n (.ofNat 23) 24)) (L7 Tryz.prog m k N (mkT op n want 24))) := by kernel_rfl
theorem r24 (op want : Int) (n : List Nat) (m N : Nat) (k : KA (Option AV)) : L7 Tryz.prog m k (N + 1) (mkT op n want 24) = byB (eqNs [109, 97, 107, 101, 45, 118, 101, 99, 116, 111, 114] n) (L7 Tryz.prog m k N (mkT op n (.ofNat 24) 25)) (byB (eqNs [37, 109, 97, 107, 101, 45, 118, 101, 99, 116, 111, 114] n) (L7 Tryz.prog m k N (mkT op n (.ofNat 24) 25)) (L7 Tryz.prog m k N (mkT op n want 25))) := by kernel_rfl
theorem r25 (op want : Int) (n : List Nat) (m N : Nat) (k : KA (Option AV)) : L7 Tryz.prog m k (N + 1) (mkT op n want 25) = byB (eqNs [118, 101, 99, 116, 111, 114, 45, 114, 101, 102] n) (L7 Tryz.prog m k N (mkT op n (.ofNat 25) 26)) (byB (eqNs [37, 118, 101, 99, 116, 111, 114, 45, 114, 101, 102] n) (L7 Tryz.prog m k N (mkT op n (.ofNat 25) 26)) (L7 Tryz.prog m k N (mkT op n want 26))) := by kernel_rfl
theorem r26 (op want : Int) (n : List Nat) (m N : Nat) (k : KA (Option AV)) : L7 Tryz.prog m k (N + 1) (mkT op n want 26) = byB (eqNs [118, 101, 99, 116, 111, 114, 45, 115, 101, 116, 33] n) (L7 Tryz.prog m k N (mkT op n (.ofNat 26) 27)) (byB (eqNs [37, 118, 101, 99, 116, 111, 114, 45, 115, 101, 116, 33] n) (L7 Tryz.prog m k N (mkT op n (.ofNat 26) 27)) (L7 Tryz.prog m k N (mkT op n want 27))) := by kernel_rfl
theorem r27 (op want : Int) (n : List Nat) (m N : Nat) (k : KA (Option AV)) : L7 Tryz.prog m k (N + 1) (mkT op n want 27) = byB (eqNs [118, 101, 99, 116, 111, 114, 45, 108, 101, 110, 103, 116, 104] n) (L7 Tryz.prog m k N (mkT op n (.ofNat 27) 28)) (byB (eqNs [37, 118, 101, 99, 116, 111, 114, 45, 108, 101, 110, 103, 116, 104] n) (L7 Tryz.prog m k N (mkT op n (.ofNat 27) 28)) (L7 Tryz.prog m k N (mkT op n want 28))) := by kernel_rfl
theorem r28 (op want : Int) (n : List Nat) (m N : Nat) (k : KA (Option AV)) : L7 Tryz.prog m k (N + 1) (mkT op n want 28) = byB (eqNs [118, 101, 99, 116, 111, 114, 63] n) (L7 Tryz.prog m k N (mkT op n (.ofNat 28) 29)) (byB (eqNs [37, 118, 101, 99, 116, 111, 114, 63] n) (L7 Tryz.prog m k N (mkT op n (.ofNat 28) 29)) (L7 Tryz.prog m k N (mkT op n want 29))) := by kernel_rfl
theorem r29 (op want : Int) (n : List Nat) (m N : Nat) (k : KA (Option AV)) : L7 Tryz.prog m k (N + 1) (mkT op n want 29) = byB (eqNs [108, 105, 115, 116, 45, 62, 118, 101, 99, 116, 111, 114] n) (L7 Tryz.prog m k N (mkT op n (.ofNat 29) 30)) (byB (eqNs [37, 108, 105, 115, 116, 45, 62, 118, 101, 99, 116, 111, 114] n) (L7 Tryz.prog m k N (mkT op n (.ofNat 29) 30)) (L7 Tryz.prog m k N (mkT op n want 30))) := by kernel_rfl
theorem r30 (op want : Int) (n : List Nat) (m N : Nat) (k : KA (Option AV)) : L7 Tryz.prog m k (N + 1) (mkT op n want 30) = byB (eqNs [118, 101, 99, 116, 111, 114, 45, 62, 108, 105, 115, 116] n) (L7 Tryz.prog m k N (mkT op n (.ofNat 30) 31)) (byB (eqNs [37, 118, 101, 99, 116, 111, 114, 45, 62, 108, 105, 115, 116] n) (L7 Tryz.prog m k N (mkT op n (.ofNat 30) 31)) (L7 Tryz.prog m k N (mkT op n want 31))) := by kernel_rfl
theorem r31 (op want : Int) (n : List Nat) (m N : Nat) (k : KA (Option AV)) : L7 Tryz.prog m k (N + 1) (mkT op n want 31) = byB (eqNs [101, 113, 63] n) (L7 Tryz.prog m k N (mkT op n (.ofNat 31) 32)) (byB (eqNs [37, 101, 113, 63] n) (L7 Tryz.prog m k N (mkT op n (.ofNat 31) 32)) (L7 Tryz.prog m k N (mkT op n want 32))) := by kernel_rfl
theorem r32 (op want : Int) (n : List Nat) (m N : Nat) (k : KA (Option AV)) : L7 Tryz.prog m k (N + 1) (mkT op n want 32) = byB (eqNs [101, 113, 118, 63] n) (L7 Tryz.prog m k N (mkT op n (.ofNat 32) 33)) (byB (eqNs [37, 101, 113, 118, 63] n) (L7 Tryz.prog m k N (mkT op n (.ofNat 32) 33)) (L7 Tryz.prog m k N (mkT op n want 33))) := by kernel_rfl
theorem r33 (op want : Int) (n : List Nat) (m N : Nat) (k : KA (Option AV)) : L7 Tryz.prog m k (N + 1) (mkT op n want 33) = byB (eqNs [101, 113, 117, 97, 108, 63] n) (L7 Tryz.prog m k N (mkT op n (.ofNat 33) 34)) (byB (eqNs [37, 101, 113, 117, 97, 108, 63] n) (L7 Tryz.prog m k N (mkT op n (.ofNat 33) 34)) (L7 Tryz.prog m k N (mkT op n want 34))) := by kernel_rfl
theorem r34 (op want : Int) (n : List Nat) (m N : Nat) (k : KA (Option AV)) : L7 Tryz.prog m k (N + 1) (mkT op n want 34) = byB (eqNs [110, 111, 116] n) (L7 Tryz.prog m k N (mkT op n (.ofNat 34) 35)) (byB (eqNs [37, 110, 111, 116] n) (L7 Tryz.prog m k N (mkT op n (.ofNat 34) 35)) (L7 Tryz.prog m k N (mkT op n want 35))) := by kernel_rfl
theorem r35 (op want : Int) (n : List Nat) (m N : Nat) (k : KA (Option AV)) : L7 Tryz.prog m k (N + 1) (mkT op n want 35) = byB (eqNs [98, 111, 111, 108, 101, 97, 110, 63] n) (L7 Tryz.prog m k N (mkT op n (.ofNat 35) 36)) (byB (eqNs [37, 98, 111, 111, 108, 101, 97, 110, 63] n) (L7 Tryz.prog m k N (mkT op n (.ofNat 35) 36)) (L7 Tryz.prog m k N (mkT op n want 36))) := by kernel_rfl
theorem r36 (op want : Int) (n : List Nat) (m N : Nat) (k : KA (Option AV)) : L7 Tryz.prog m k (N + 1) (mkT op n want 36) = byB (eqNs [115, 121, 109, 98, 111, 108, 63] n) (L7 Tryz.prog m k N (mkT op n (.ofNat 36) 37)) (byB (eqNs [37, 115, 121, 109, 98, 111, 108, 63] n) (L7 Tryz.prog m k N (mkT op n (.ofNat 36) 37)) (L7 Tryz.prog m k N (mkT op n want 37))) := by kernel_rfl
theorem r37 (op want : Int) (n : List Nat) (m N : Nat) (k : KA (Option AV)) : L7 Tryz.prog m k (N + 1) (mkT op n want 37) = byB (eqNs [115, 121, 109, 98, 111, 108, 45, 62, 115, 116, 114, 105, 110, 103] n) (L7 Tryz.prog m k N (mkT op n (.ofNat 37) 38)) (byB (eqNs [37, 115, 121, 109, 98, 111, 108, 45, 62, 115, 116, 114, 105, 110, 103] n) (L7 Tryz.prog m k N (mkT op n (.ofNat 37) 38)) (L7 Tryz.prog m k N (mkT op n want 38))) := by kernel_rfl
theorem r38 (op want : Int) (n : List Nat) (m N : Nat) (k : KA (Option AV)) : L7 Tryz.prog m k (N + 1) (mkT op n want 38) = byB (eqNs [115, 116, 114, 105, 110, 103, 45, 62, 115, 121, 109, 98, 111, 108] n) (L7 Tryz.prog m k N (mkT op n (.ofNat 38) 39)) (byB (eqNs [37, 115, 116, 114, 105, 110, 103, 45, 62, 115, 121, 109, 98, 111, 108] n) (L7 Tryz.prog m k N (mkT op n (.ofNat 38) 39)) (L7 Tryz.prog m k N (mkT op n want 39))) := by kernel_rfl
theorem r39 (op want : Int) (n : List Nat) (m N : Nat) (k : KA (Option AV)) : L7 Tryz.prog m k (N + 1) (mkT op n want 39) = byB (eqNs [115, 116, 114, 105, 110, 103, 63] n) (L7 Tryz.prog m k N (mkT op n (.ofNat 39) 40)) (byB (eqNs [37, 115, 116, 114, 105, 110, 103, 63] n) (L7 Tryz.prog m k N (mkT op n (.ofNat 39) 40)) (L7 Tryz.prog m k N (mkT op n want 40))) := by kernel_rfl
theorem r40 (op want : Int) (n : List Nat) (m N : Nat) (k : KA (Option AV)) : L7 Tryz.prog m k (N + 1) (mkT op n want 40) = byB (eqNs [115, 116, 114, 105, 110, 103, 45, 108, 101, 110, 103, 116, 104] n) (L7 Tryz.prog m k N (mkT op n (.ofNat 40) 41)) (byB (eqNs [37, 115, 116, 114, 105, 110, 103, 45, 108, 101, 110, 103, 116, 104] n) (L7 Tryz.prog m k N (mkT op n (.ofNat 40) 41)) (L7 Tryz.prog m k N (mkT op n want 41))) := by kernel_rfl
theorem r41 (op want : Int) (n : List Nat) (m N : Nat) (k : KA (Option AV)) : L7 Tryz.prog m k (N + 1) (mkT op n want 41) = byB (eqNs [115, 116, 114, 105, 110, 103, 45, 114, 101, 102] n) (L7 Tryz.prog m k N (mkT op n (.ofNat 41) 42)) (byB (eqNs [37, 115, 116, 114, 105, 110, 103, 45, 114, 101, 102] n) (L7 Tryz.prog m k N (mkT op n (.ofNat 41) 42)) (L7 Tryz.prog m k N (mkT op n want 42))) := by kernel_rfl
theorem r42 (op want : Int) (n : List Nat) (m N : Nat) (k : KA (Option AV)) : L7 Tryz.prog m k (N + 1) (mkT op n want 42) = byB (eqNs [115, 116, 114, 105, 110, 103, 45, 97, 112, 112, 101, 110, 100] n) (L7 Tryz.prog m k N (mkT op n (.ofNat 42) 43)) (byB (eqNs [37, 115, 116, 114, 105, 110, 103, 45, 97, 112, 112, 101, 110, 100] n) (L7 Tryz.prog m k N (mkT op n (.ofNat 42) 43)) (L7 Tryz.prog m k N (mkT op n want 43))) := by kernel_rfl
theorem r43 (op want : Int) (n : List Nat) (m N : Nat) (k : KA (Option AV)) : L7 Tryz.prog m k (N + 1) (mkT op n want 43) = byB (eqNs [115, 116, 114, 105, 110, 103, 61, 63] n) (L7 Tryz.prog m k N (mkT op n (.ofNat 43) 44)) (byB (eqNs [37, 115, 116, 114, 105, 110, 103, 61, 63] n) (L7 Tryz.prog m k N (mkT op n (.ofNat 43) 44)) (L7 Tryz.prog m k N (mkT op n want 44))) := by kernel_rfl
theorem r44 (op want : Int) (n : List Nat) (m N : Nat) (k : KA (Option AV)) : L7 Tryz.prog m k (N + 1) (mkT op n want 44) = byB (eqNs [115, 116, 114, 105, 110, 103, 45, 62, 108, 105, 115, 116] n) (L7 Tryz.prog m k N (mkT op n (.ofNat 44) 45)) (byB (eqNs [37, 115, 116, 114, 105, 110, 103, 45, 62, 108, 105, 115, 116] n) (L7 Tryz.prog m k N (mkT op n (.ofNat 44) 45)) (L7 Tryz.prog m k N (mkT op n want 45))) := by kernel_rfl
theorem r45 (op want : Int) (n : List Nat) (m N : Nat) (k : KA (Option AV)) : L7 Tryz.prog m k (N + 1) (mkT op n want 45) = byB (eqNs [108, 105, 115, 116, 45, 62, 115, 116, 114, 105, 110, 103] n) (L7 Tryz.prog m k N (mkT op n (.ofNat 45) 46)) (byB (eqNs [37, 108, 105, 115, 116, 45, 62, 115, 116, 114, 105, 110, 103] n) (L7 Tryz.prog m k N (mkT op n (.ofNat 45) 46)) (L7 Tryz.prog m k N (mkT op n want 46))) := by kernel_rfl
theorem r46 (op want : Int) (n : List Nat) (m N : Nat) (k : KA (Option AV)) : L7 Tryz.prog m k (N + 1) (mkT op n want 46) = byB (eqNs [99, 104, 97, 114, 63] n) (L7 Tryz.prog m k N (mkT op n (.ofNat 46) 47)) (byB (eqNs [37, 99, 104, 97, 114, 63] n) (L7 Tryz.prog m k N (mkT op n (.ofNat 46) 47)) (L7 Tryz.prog m k N (mkT op n want 47))) := by kernel_rfl
theorem r47 (op want : Int) (n : List Nat) (m N : Nat) (k : KA (Option AV)) : L7 Tryz.prog m k (N + 1) (mkT op n want 47) = byB (eqNs [99, 104, 97, 114, 45, 62, 105, 110, 116, 101, 103, 101, 114] n) (L7 Tryz.prog m k N (mkT op n (.ofNat 47) 48)) (byB (eqNs [37, 99, 104, 97, 114, 45, 62, 105, 110, 116, 101, 103, 101, 114] n) (L7 Tryz.prog m k N (mkT op n (.ofNat 47) 48)) (L7 Tryz.prog m k N (mkT op n want 48))) := by kernel_rfl
theorem r48 (op want : Int) (n : List Nat) (m N : Nat) (k : KA (Option AV)) : L7 Tryz.prog m k (N + 1) (mkT op n want 48) = byB (eqNs [105, 110, 116, 101, 103, 101, 114, 45, 62, 99, 104, 97, 114] n) (L7 Tryz.prog m k N (mkT op n (.ofNat 48) 49)) (byB (eqNs [37, 105, 110, 116, 101, 103, 101, 114, 45, 62, 99, 104, 97, 114] n) (L7 Tryz.prog m k N (mkT op n (.ofNat 48) 49)) (L7 Tryz.prog m k N (mkT op n want 49))) := by kernel_rfl
theorem r49 (op want : Int) (n : List Nat) (m N : Nat) (k : KA (Option AV)) : L7 Tryz.prog m k (N + 1) (mkT op n want 49) = byB (eqNs [98, 111, 120] n) (L7 Tryz.prog m k N (mkT op n (.ofNat 49) 50)) (byB (eqNs [37, 98, 111, 120] n) (L7 Tryz.prog m k N (mkT op n (.ofNat 49) 50)) (L7 Tryz.prog m k N (mkT op n want 50))) := by kernel_rfl
theorem r50 (op want : Int) (n : List Nat) (m N : Nat) (k : KA (Option AV)) : L7 Tryz.prog m k (N + 1) (mkT op n want 50) = byB (eqNs [117, 110, 98, 111, 120] n) (L7 Tryz.prog m k N (mkT op n (.ofNat 50) 51)) (byB (eqNs [37, 117, 110, 98, 111, 120] n) (L7 Tryz.prog m k N (mkT op n (.ofNat 50) 51)) (L7 Tryz.prog m k N (mkT op n want 51))) := by kernel_rfl
theorem r51 (op want : Int) (n : List Nat) (m N : Nat) (k : KA (Option AV)) : L7 Tryz.prog m k (N + 1) (mkT op n want 51) = byB (eqNs [115, 101, 116, 45, 98, 111, 120, 33] n) (L7 Tryz.prog m k N (mkT op n (.ofNat 51) 52)) (byB (eqNs [37, 115, 101, 116, 45, 98, 111, 120, 33] n) (L7 Tryz.prog m k N (mkT op n (.ofNat 51) 52)) (L7 Tryz.prog m k N (mkT op n want 52))) := by kernel_rfl
theorem r52 (op want : Int) (n : List Nat) (m N : Nat) (k : KA (Option AV)) : L7 Tryz.prog m k (N + 1) (mkT op n want 52) = byB (eqNs [98, 111, 120, 63] n) (L7 Tryz.prog m k N (mkT op n (.ofNat 52) 53)) (byB (eqNs [37, 98, 111, 120, 63] n) (L7 Tryz.prog m k N (mkT op n (.ofNat 52) 53)) (L7 Tryz.prog m k N (mkT op n want 53))) := by kernel_rfl
theorem r53 (op want : Int) (n : List Nat) (m N : Nat) (k : KA (Option AV)) : L7 Tryz.prog m k (N + 1) (mkT op n want 53) = byB (eqNs [118, 111, 105, 100] n) (L7 Tryz.prog m k N (mkT op n (.ofNat 53) 54)) (byB (eqNs [37, 118, 111, 105, 100] n) (L7 Tryz.prog m k N (mkT op n (.ofNat 53) 54)) (L7 Tryz.prog m k N (mkT op n want 54))) := by kernel_rfl
theorem r54 (op want : Int) (n : List Nat) (m N : Nat) (k : KA (Option AV)) : L7 Tryz.prog m k (N + 1) (mkT op n want 54) = byB (eqNs [112, 114, 111, 99, 101, 100, 117, 114, 101, 63] n) (L7 Tryz.prog m k N (mkT op n (.ofNat 54) 55)) (byB (eqNs [37, 112, 114, 111, 99, 101, 100, 117, 114, 101, 63] n) (L7 Tryz.prog m k N (mkT op n (.ofNat 54) 55)) (L7 Tryz.prog m k N (mkT op n want 55))) := by kernel_rfl
theorem r55 (op want : Int) (n : List Nat) (m N : Nat) (k : KA (Option AV)) : L7 Tryz.prog m k (N + 1) (mkT op n want 55) = byB (eqNs [110, 117, 109, 98, 101, 114, 45, 62, 115, 116, 114, 105, 110, 103] n) (L7 Tryz.prog m k N (mkT op n (.ofNat 55) 56)) (byB (eqNs [37, 110, 117, 109, 98, 101, 114, 45, 62, 115, 116, 114, 105, 110, 103] n) (L7 Tryz.prog m k N (mkT op n (.ofNat 55) 56)) (L7 Tryz.prog m k N (mkT op n want 56))) := by kernel_rfl
theorem r56 (op want : Int) (n : List Nat) (m N : Nat) (k : KA (Option AV)) : L7 Tryz.prog m k (N + 1) (mkT op n want 56) = byB (eqNs [115, 116, 114, 105, 110, 103, 45, 62, 110, 117, 109, 98, 101, 114] n) (L7 Tryz.prog m k N (mkT op n (.ofNat 56) 57)) (byB (eqNs [37, 115, 116, 114, 105, 110, 103, 45, 62, 110, 117, 109, 98, 101, 114] n) (L7 Tryz.prog m k N (mkT op n (.ofNat 56) 57)) (L7 Tryz.prog m k N (mkT op n want 57))) := by kernel_rfl
theorem r57 (op want : Int) (n : List Nat) (m N : Nat) (k : KA (Option AV)) : L7 Tryz.prog m k (N + 1) (mkT op n want 57) = byB (eqNs [114, 101, 118, 101, 114, 115, 101] n) (L7 Tryz.prog m k N (mkT op n (.ofNat 57) 58)) (byB (eqNs [37, 114, 101, 118, 101, 114, 115, 101] n) (L7 Tryz.prog m k N (mkT op n (.ofNat 57) 58)) (L7 Tryz.prog m k N (mkT op n want 58))) := by kernel_rfl
theorem r58 (op want : Int) (n : List Nat) (m N : Nat) (k : KA (Option AV)) : L7 Tryz.prog m k (N + 1) (mkT op n want 58) = byB (eqNs [115, 121, 110, 116, 97, 120, 63] n) (L7 Tryz.prog m k N (mkT op n (.ofNat 58) 59)) (byB (eqNs [37, 115, 121, 110, 116, 97, 120, 63] n) (L7 Tryz.prog m k N (mkT op n (.ofNat 58) 59)) (L7 Tryz.prog m k N (mkT op n want 59))) := by kernel_rfl
theorem r59 (op want : Int) (n : List Nat) (m N : Nat) (k : KA (Option AV)) : L7 Tryz.prog m k (N + 1) (mkT op n want 59) = byB (eqNs [105, 100, 101, 110, 116, 105, 102, 105, 101, 114, 63] n) (L7 Tryz.prog m k N (mkT op n (.ofNat 59) 60)) (byB (eqNs [37, 105, 100, 101, 110, 116, 105, 102, 105, 101, 114, 63] n) (L7 Tryz.prog m k N (mkT op n (.ofNat 59) 60)) (L7 Tryz.prog m k N (mkT op n want 60))) := by kernel_rfl
theorem r60 (op want : Int) (n : List Nat) (m N : Nat) (k : KA (Option AV)) : L7 Tryz.prog m k (N + 1) (mkT op n want 60) = byB (eqNs [115, 121, 110, 116, 97, 120, 45, 62, 100, 97, 116, 117, 109] n) (L7 Tryz.prog m k N (mkT op n (.ofNat 60) 61)) (byB (eqNs [37, 115, 121, 110, 116, 97, 120, 45, 62, 100, 97, 116, 117, 109] n) (L7 Tryz.prog m k N (mkT op n (.ofNat 60) 61)) (L7 Tryz.prog m k N (mkT op n want 61))) := by kernel_rfl
theorem r61 (op want : Int) (n : List Nat) (m N : Nat) (k : KA (Option AV)) : L7 Tryz.prog m k (N + 1) (mkT op n want 61) = byB (eqNs [100, 97, 116, 117, 109, 45, 62, 115, 121, 110, 116, 97, 120] n) (L7 Tryz.prog m k N (mkT op n (.ofNat 61) 62)) (byB (eqNs [37, 100, 97, 116, 117, 109, 45, 62, 115, 121, 110, 116, 97, 120] n) (L7 Tryz.prog m k N (mkT op n (.ofNat 61) 62)) (L7 Tryz.prog m k N (mkT op n want 62))) := by kernel_rfl
theorem r62 (op want : Int) (n : List Nat) (m N : Nat) (k : KA (Option AV)) : L7 Tryz.prog m k (N + 1) (mkT op n want 62) = byB (eqNs [115, 121, 110, 116, 97, 120, 45, 62, 108, 105, 115, 116] n) (L7 Tryz.prog m k N (mkT op n (.ofNat 62) 63)) (byB (eqNs [37, 115, 121, 110, 116, 97, 120, 45, 62, 108, 105, 115, 116] n) (L7 Tryz.prog m k N (mkT op n (.ofNat 62) 63)) (L7 Tryz.prog m k N (mkT op n want 63))) := by kernel_rfl
theorem r63 (op want : Int) (n : List Nat) (m N : Nat) (k : KA (Option AV)) : L7 Tryz.prog m k (N + 1) (mkT op n want 63) = byB (eqNs [98, 111, 117, 110, 100, 45, 105, 100, 101, 110, 116, 105, 102, 105, 101, 114, 61, 63] n) (L7 Tryz.prog m k N (mkT op n (.ofNat 63) 64)) (byB (eqNs [37, 98, 111, 117, 110, 100, 45, 105, 100, 101, 110, 116, 105, 102, 105, 101, 114, 61, 63] n) (L7 Tryz.prog m k N (mkT op n (.ofNat 63) 64)) (L7 Tryz.prog m k N (mkT op n want 64))) := by kernel_rfl
theorem r64 (op want : Int) (n : List Nat) (m N : Nat) (k : KA (Option AV)) : L7 Tryz.prog m k (N + 1) (mkT op n want 64) = byB (eqNs [97, 112, 112, 108, 121] n) (L7 Tryz.prog m k N (mkT op n (.ofNat 64) 65)) (byB (eqNs [37, 97, 112, 112, 108, 121] n) (L7 Tryz.prog m k N (mkT op n (.ofNat 64) 65)) (L7 Tryz.prog m k N (mkT op n want 65))) := by kernel_rfl
theorem r65 (op want : Int) (n : List Nat) (m N : Nat) (k : KA (Option AV)) : L7 Tryz.prog m k (N + 1) (mkT op n want 65) = byB (eqNs [99, 97, 108, 108, 47, 99, 99] n) (L7 Tryz.prog m k N (mkT op n (.ofNat 65) 66)) (byB (eqNs [37, 99, 97, 108, 108, 47, 99, 99] n) (L7 Tryz.prog m k N (mkT op n (.ofNat 65) 66)) (L7 Tryz.prog m k N (mkT op n want 66))) := by kernel_rfl
theorem r66 (op want : Int) (n : List Nat) (m N : Nat) (k : KA (Option AV)) : L7 Tryz.prog m k (N + 1) (mkT op n want 66) = byB (eqNs [118, 97, 108, 117, 101, 115] n) (L7 Tryz.prog m k N (mkT op n (.ofNat 66) 67)) (byB (eqNs [37, 118, 97, 108, 117, 101, 115] n) (L7 Tryz.prog m k N (mkT op n (.ofNat 66) 67)) (L7 Tryz.prog m k N (mkT op n want 67))) := by kernel_rfl
theorem r67 (op want : Int) (n : List Nat) (m N : Nat) (k : KA (Option AV)) : L7 Tryz.prog m k (N + 1) (mkT op n want 67) = byB (eqNs [99, 97, 108, 108, 45, 119, 105, 116, 104, 45, 118, 97, 108, 117, 101, 115] n) (L7 Tryz.prog m k N (mkT op n (.ofNat 67) 68)) (byB (eqNs [37, 99, 97, 108, 108, 45, 119, 105, 116, 104, 45, 118, 97, 108, 117, 101, 115] n) (L7 Tryz.prog m k N (mkT op n (.ofNat 67) 68)) (L7 Tryz.prog m k N (mkT op n want 68))) := by kernel_rfl
theorem r68 (op want : Int) (n : List Nat) (m N : Nat) (k : KA (Option AV)) : L7 Tryz.prog m k (N + 1) (mkT op n want 68) = byB (eqNs [100, 121, 110, 97, 109, 105, 99, 45, 119, 105, 110, 100] n) (L7 Tryz.prog m k N (mkT op n (.ofNat 68) 69)) (byB (eqNs [37, 100, 121, 110, 97, 109, 105, 99, 45, 119, 105, 110, 100] n) (L7 Tryz.prog m k N (mkT op n (.ofNat 68) 69)) (L7 Tryz.prog m k N (mkT op n want 69))) := by kernel_rfl
theorem r69 (op want : Int) (n : List Nat) (m N : Nat) (k : KA (Option AV)) : L7 Tryz.prog m k (N + 1) (mkT op n want 69) = byB (eqNs [119, 105, 116, 104, 45, 101, 120, 99, 101, 112, 116, 105, 111, 110, 45, 104, 97, 110, 100, 108, 101, 114] n) (L7 Tryz.prog m k N (mkT op n (.ofNat 69) 70)) (byB (eqNs [37, 119, 105, 116, 104, 45, 101, 120, 99, 101, 112, 116, 105, 111, 110, 45, 104, 97, 110, 100, 108, 101, 114] n) (L7 Tryz.prog m k N (mkT op n (.ofNat 69) 70)) (L7 Tryz.prog m k N (mkT op n want 70))) := by kernel_rfl
theorem r70 (op want : Int) (n : List Nat) (m N : Nat) (k : KA (Option AV)) : L7 Tryz.prog m k (N + 1) (mkT op n want 70) = byB (eqNs [114, 97, 105, 115, 101] n) (L7 Tryz.prog m k N (mkT op n (.ofNat 70) 71)) (byB (eqNs [37, 114, 97, 105, 115, 101] n) (L7 Tryz.prog m k N (mkT op n (.ofNat 70) 71)) (L7 Tryz.prog m k N (mkT op n want 71))) := by kernel_rfl
theorem r71 (op want : Int) (n : List Nat) (m N : Nat) (k : KA (Option AV)) : L7 Tryz.prog m k (N + 1) (mkT op n want 71) = byB (eqNs [114, 97, 105, 115, 101, 45, 99, 111, 110, 116, 105, 110, 117, 97, 98, 108, 101] n) (L7 Tryz.prog m k N (mkT op n (.ofNat 71) 72)) (byB (eqNs [37, 114, 97, 105, 115, 101, 45, 99, 111, 110, 116, 105, 110, 117, 97, 98, 108, 101] n) (L7 Tryz.prog m k N (mkT op n (.ofNat 71) 72)) (L7 Tryz.prog m k N (mkT op n want 72))) := by kernel_rfl
theorem r72 (op want : Int) (n : List Nat) (m N : Nat) (k : KA (Option AV)) : L7 Tryz.prog m k (N + 1) (mkT op n want 72) = byB (eqNs [100, 105, 115, 112, 108, 97, 121] n) (L7 Tryz.prog m k N (mkT op n (.ofNat 72) 73)) (byB (eqNs [37, 100, 105, 115, 112, 108, 97, 121] n) (L7 Tryz.prog m k N (mkT op n (.ofNat 72) 73)) (L7 Tryz.prog m k N (mkT op n want 73))) := by kernel_rfl
theorem r73 (op want : Int) (n : List Nat) (m N : Nat) (k : KA (Option AV)) : L7 Tryz.prog m k (N + 1) (mkT op n want 73) = byB (eqNs [102, 114, 101, 101, 45, 105, 100, 101, 110, 116, 105, 102, 105, 101, 114, 61, 63] n) (L7 Tryz.prog m k N (mkT op n (.ofNat 73) 74)) (byB (eqNs [37, 102, 114, 101, 101, 45, 105, 100, 101, 110, 116, 105, 102, 105, 101, 114, 61, 63] n) (L7 Tryz.prog m k N (mkT op n (.ofNat 73) 74)) (L7 Tryz.prog m k N (mkT op n want 74))) := by kernel_rfl
theorem r74 (op want : Int) (n : List Nat) (m N : Nat) (k : KA (Option AV)) : L7 Tryz.prog m k (N + 1) (mkT op n want 74) = byB (eqNs [103, 101, 110, 101, 114, 97, 116, 101, 45, 116, 101, 109, 112, 111, 114, 97, 114, 105, 101, 115] n) (L7 Tryz.prog m k N (mkT op n (.ofNat 74) 75)) (byB (eqNs [37, 103, 101, 110, 101, 114, 97, 116, 101, 45, 116, 101, 109, 112, 111, 114, 97, 114, 105, 101, 115] n) (L7 Tryz.prog m k N (mkT op n (.ofNat 74) 75)) (L7 Tryz.prog m k N (mkT op n want 75))) := by kernel_rfl
theorem r75 (op want : Int) (n : List Nat) (m N : Nat) (k : KA (Option AV)) : L7 Tryz.prog m k (N + 1) (mkT op n want 75) = byB (eqNs [37, 109, 97, 116, 99, 104] n) (L7 Tryz.prog m k N (mkT op n (.ofNat 75) 76)) (L7 Tryz.prog m k N (mkT op n want 76)) := by kernel_rfl
theorem r76 (op want : Int) (n : List Nat) (m N : Nat) (k : KA (Option AV)) : L7 Tryz.prog m k (N + 1) (mkT op n want 76) = byB (eqNs [37, 102, 105, 108, 108] n) (L7 Tryz.prog m k N (mkT op n (.ofNat 76) 77)) (L7 Tryz.prog m k N (mkT op n want 77)) := by kernel_rfl
theorem r77 (op want : Int) (n : List Nat) (m N : Nat) (k : KA (Option AV)) : L7 Tryz.prog m k (N + 1) (mkT op n want 77) = byB (eqNs [37, 103, 97, 116, 104, 101, 114] n) (L7 Tryz.prog m k N (mkT op n (.ofNat 77) 78)) (L7 Tryz.prog m k N (mkT op n want 78)) := by kernel_rfl
theorem r78 (op want : Int) (n : List Nat) (m N : Nat) (k : KA (Option AV)) : L7 Tryz.prog m k (N + 1) (mkT op n want 78) = byB (eqNs [37, 102, 111, 114, 109] n) (L7 Tryz.prog m k N (mkT op n (.ofNat 78) 79)) (L7 Tryz.prog m k N (mkT op n want 79)) := by kernel_rfl
theorem r79 (op want : Int) (n : List Nat) (m N : Nat) (k : KA (Option AV)) : L7 Tryz.prog m k (N + 1) (mkT op n want 79) = byB (eqNs [37, 117, 110, 102, 111, 114, 109] n) (L7 Tryz.prog m k N (mkT op n (.ofNat 79) 80)) (L7 Tryz.prog m k N (mkT op n want 80)) := by kernel_rfl
end Go.Am.Tab
