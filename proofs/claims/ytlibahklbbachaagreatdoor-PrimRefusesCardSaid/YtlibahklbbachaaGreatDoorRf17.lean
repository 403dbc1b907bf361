import Derived.Test.YtlibahklbbachaaGreatDoorRf6
import Derived.Test.YtlibahklbbachaaGreatDoorProg
import Derived.Test.YtlibahklbbachaaGreatDoorRf13
import Derived.Test.YtlibahklbbachaaGreatDoorRf16
import Derived.Test.YtlibahklbbachaaGreatDoorRf11
set_option autoImplicit false
set_option maxRecDepth 100000
set_option linter.unusedSimpArgs false
set_option linter.unusedVariables false
section
namespace Go.Am.Tab
open Go Go.Am Go.Proofs
def names : List (List Nat) := [
 [43],
 [45],
 [42],
 [113, 117, 111, 116, 105, 101, 110, 116],
 [114, 101, 109, 97, 105, 110, 100, 101, 114],
 [109, 111, 100, 117, 108, 111],
 [61],
 [60],
 [62],
 [60, 61],
 [62, 61],
 [105, 110, 116, 101, 103, 101, 114, 63],
 [99, 111, 110, 115],
 [99, 97, 114],
 [99, 100, 114],
 [115, 101, 116, 45, 99, 97, 114, 33],
 [115, 101, 116, 45, 99, 100, 114, 33],
 [112, 97, 105, 114, 63],
 [110, 117, 108, 108, 63],
 [108, 105, 115, 116],
 [108, 105, 115, 116, 63],
 [108, 101, 110, 103, 116, 104],
 [97, 112, 112, 101, 110, 100],
 [118, 101, 99, 116, 111, 114],
 [109, 97, 107, 101, 45, 118, 101, 99, 116, 111, 114],
 [118, 101, 99, 116, 111, 114, 45, 114, 101, 102],
 [118, 101, 99, 116, 111, 114, 45, 115, 101, 116, 33],
 [118, 101, 99, 116, 111, 114, 45, 108, 101, 110, 103, 116, 104],
 [118, 101, 99, 116, 111, 114, 63],
 [108, 105, 115, 116, 45, 62, 118, 101, 99, 116, 111, 114],
 [118, 101, 99, 116, 111, 114, 45, 62, 108, 105, 115, 116],
 [101, 113, 63],
 [101, 113, 118, 63],
 [101, 113, 117, 97, 108, 63],
 [110, 111, 116],
 [98, 111, 111, 108, 101, 97, 110, 63],
 [115, 121, 109, 98, 111, 108, 63],
 [115, 121, 109, 98, 111, 108, 45, 62, 115, 116, 114, 105, 110, 103],
 [115, 116, 114, 105, 110, 103, 45, 62, 115, 121, 109, 98, 111, 108],
 [115, 116, 114, 105, 110, 103, 63],
 [115, 116, 114, 105, 110, 103, 45, 108, 101, 110, 103, 116, 104],
 [115, 116, 114, 105, 110, 103, 45, 114, 101, 102],
 [115, 116, 114, 105, 110, 103, 45, 97, 112, 112, 101, 110, 100],
 [115, 116, 114, 105, 110, 103, 61, 63],
 [115, 116, 114, 105, 110, 103, 45, 62, 108, 105, 115, 116],
 [108, 105, 115, 116, 45, 62, 115, 116, 114, 105, 110, 103],
 [99, 104, 97, 114, 63],
 [99, 104, 97, 114, 45, 62, 105, 110, 116, 101, 103, 101, 114],
 [105, 110, 116, 101, 103, 101, 114, 45, 62, 99, 104, 97, 114],
 [98, 111, 120],
 [117, 110, 98, 111, 120],
 [115, 101, 116, 45, 98, 111, 120, 33],
 [98, 111, 120, 63],
 [118, 111, 105, 100],
 [112, 114, 111, 99, 101, 100, 117, 114, 101, 63],
 [110, 117, 109, 98, 101, 114, 45, 62, 115, 116, 114, 105, 110, 103],
 [115, 116, 114, 105, 110, 103, 45, 62, 110, 117, 109, 98, 101, 114],
 [114, 101, 118, 101, 114, 115, 101],
 [115, 121, 110, 116, 97, 120, 63],
 [105, 100, 101, 110, 116, 105, 102, 105, 101, 114, 63],
 [115, 121, 110, 116, 97, 120, 45, 62, 100, 97, 116, 117, 109],
 [100, 97, 116, 117, 109, 45, 62, 115, 121, 110, 116, 97, 120],
 [115, 121, 110, 116, 97, 120, 45, 62, 108, 105, 115, 116],
 [98, 111, 117, 110, 100, 45, 105, 100, 101, 110, 116, 105, 102, 105, 101, 114, 61, 63],
 [97, 112, 112, 108, 121],
 [99, 97, 108, 108, 47, 99, 99],
 [118, 97, 108, 117, 101, 115],
 [99, 97, 108, 108, 45, 119, 105, 116, 104, 45, 118, 97, 108, 117, 101, 115],
 [100, 121, 110, 97, 109, 105, 99, 45, 119, 105, 110, 100],
 [119, 105, 116, 104, 45, 101, 120, 99, 101, 112, 116, 105, 111, 110, 45, 104, 97, 110, 100, 108, 101, 114],
 [114, 97, 105, 115, 101],
 [114, 97, 105, 115, 101, 45, 99, 111, 110, 116, 105, 110, 117, 97, 98, 108, 101],
 [100, 105, 115, 112, 108, 97, 121],
 [102, 114, 101, 101, 45, 105, 100, 101, 110, 116, 105, 102, 105, 101, 114, 61, 63],
 [103, 101, 110, 101, 114, 97, 116, 101, 45, 116, 101, 109, 112, 111, 114, 97, 114, 105, 101, 115],
 [37, 109, 97, 116, 99, 104],
 [37, 102, 105, 108, 108],
 [37, 103, 97, 116, 104, 101, 114],
 [37, 102, 111, 114, 109],
 [37, 117, 110, 102, 111, 114, 109]]
def ars : List (Int × Int) := [
 (0, -1), (1, -1), (0, -1), (2, 2), (2, 2), (2, 2), (1, -1), (1, -1), (1, -1), (1, -1),
 (1, -1), (1, 1), (2, 2), (1, 1), (1, 1), (2, 2), (2, 2), (1, 1), (1, 1), (0, -1),
 (1, 1), (1, 1), (0, -1), (0, -1), (2, 2), (2, 2), (3, 3), (1, 1), (1, 1), (1, 1),
 (1, 1), (2, 2), (2, 2), (2, 2), (1, 1), (1, 1), (1, 1), (1, 1), (1, 1), (1, 1),
 (1, 1), (2, 2), (0, -1), (2, 2), (1, 1), (1, 1), (1, 1), (1, 1), (1, 1), (1, 1),
 (1, 1), (2, 2), (1, 1), (0, 0), (1, 1), (1, 1), (1, 1), (1, 1), (1, 1), (1, 1),
 (1, 1), (2, 2), (1, 1), (2, 2), (2, -1), (1, 1), (0, -1), (2, 2), (3, 3), (2, 2),
 (1, 1), (1, 1), (1, 1), (2, 2), (1, 1), (3, 3), (2, -1), (0, -1), (1, 1), (2, 2)]
def cellsOf : List (List Nat) → List (Int × Int) → List AV
 | n :: l, (a, b) :: r => .str n :: .int .i64 a :: .int .i64 b :: cellsOf l r
 | _, _ => []
def tabV : AV := .agg (cellsOf names ars)
def F39 : List AV → Option AV
 | [] => some tabV
 | _ => none
theorem flat39 : tabV.flat = true := by kernel_rfl
/-! ## Number -/
end Go.Am.Tab
end
section
namespace Go.Am.Sto
open Go Go.Am Go.Proofs
theorem run39 : bodyK Tryz.prog G0 .none 0 0 noLive Res.val? 0 Tryz.prog.funcs[39]? [] St.empty = some Tab.tabV := by kernel_rfl
def XT : Known := Known.none.add 39 (pureX Tab.F39)
theorem kT : KnownOk Tryz.prog G0 XT := (KnownOk.none _ _).add (flat_known (D := noLive) (m := 0) (loops := 0) (n := 0) (F := Tab.F39) hm hn G0_plain (KnownOk.none _ _) fun ar x h => by
 unfold Tab.F39 at h
 split at h
 ·cases h; exact ⟨rfl, Tab.flat39, run39⟩
 ·cases h)
def arOf (op : Int) : Int × Int :=
 match op with
 | .ofNat k => match Tab.ars[k]? with | some p => p | none => (0, -2)
 | .negSucc _ => (0, -2)
def arV (op : Int) : AV := .tup [.int .i64 (arOf op).1, .int .i64 (arOf op).2]
def arB (P : Program) (f : FuncId) (op : Int) : Option AV := bodyK P G0 XT 0 5 noLive Res.val? 0 P.funcs[f]? [.int .i64 op] St.empty
theorem negP (m : Nat) : arB Tryz.prog 22 (.negSucc m) = some (arV (.negSucc m)) := by kernel_rfl
theorem bigP (m : Nat) : arB Tryz.prog 22 (.ofNat (m + 80)) = some (arV (.ofNat (m + 80))) := by kernel_rfl
theorem arP_in : ∀ k, k < 80 → arB Tryz.prog 22 (.ofNat k) = some (arV (.ofNat k))
 | 0, _ => by kernel_rfl
 | 1, _ => by kernel_rfl
 | 2, _ => by kernel_rfl
 | 3, _ => by kernel_rfl
 | 4, _ => by kernel_rfl
 | 5, _ => by kernel_rfl
 | 6, _ => by kernel_rfl
 | 7, _ => by kernel_rfl
 | 8, _ => by kernel_rfl
 | 9, _ => by kernel_rfl
 | 10, _ => by kernel_rfl
 | 11, _ => by kernel_rfl
 | 12, _ => by kernel_rfl
 | 13, _ => by kernel_rfl
 | 14, _ => by kernel_rfl
 | 15, _ => by kernel_rfl
 | 16, _ => by kernel_rfl
 | 17, _ => by kernel_rfl
 | 18, _ => by kernel_rfl
 | 19, _ => by kernel_rfl
 | 20, _ => by kernel_rfl
 | 21, _ => by kernel_rfl
 | 22, _ => by kernel_rfl
 | 23, _ => by kernel_rfl
 | 24, _ => by kernel_rfl
 | 25, _ => by kernel_rfl
 | 26, _ => by kernel_rfl
 | 27, _ => by kernel_rfl
 | 28, _ => by kernel_rfl
 | 29, _ => by kernel_rfl
 | 30, _ => by kernel_rfl
 | 31, _ => by kernel_rfl
 | 32, _ => by kernel_rfl
 | 33, _ => by kernel_rfl
 | 34, _ => by kernel_rfl
 | 35, _ => by kernel_rfl
 | 36, _ => by kernel_rfl
 | 37, _ => by kernel_rfl
 | 38, _ => by kernel_rfl
 | 39, _ => by kernel_rfl
 | 40, _ => by kernel_rfl
 | 41, _ => by kernel_rfl
 | 42, _ => by kernel_rfl
 | 43, _ => by kernel_rfl
 | 44, _ => by kernel_rfl
 | 45, _ => by kernel_rfl
 | 46, _ => by kernel_rfl
 | 47, _ => by kernel_rfl
 | 48, _ => by kernel_rfl
 | 49, _ => by kernel_rfl
 | 50, _ => by kernel_rfl
 | 51, _ => by kernel_rfl
 | 52, _ => by kernel_rfl
 | 53, _ => by kernel_rfl
 | 54, _ => by kernel_rfl
 | 55, _ => by kernel_rfl
 | 56, _ => by kernel_rfl
 | 57, _ => by kernel_rfl
 | 58, _ => by kernel_rfl
 | 59, _ => by kernel_rfl
 | 60, _ => by kernel_rfl
 | 61, _ => by kernel_rfl
 | 62, _ => by kernel_rfl
 | 63, _ => by kernel_rfl
 | 64, _ => by kernel_rfl
 | 65, _ => by kernel_rfl
 | 66, _ => by kernel_rfl
 | 67, _ => by kernel_rfl
 | 68, _ => by kernel_rfl
 | 69, _ => by kernel_rfl
 | 70, _ => by kernel_rfl
 | 71, _ => by kernel_rfl
 | 72, _ => by kernel_rfl
 | 73, _ => by kernel_rfl
 | 74, _ => by kernel_rfl
 | 75, _ => by kernel_rfl
 | 76, _ => by kernel_rfl
 | 77, _ => by kernel_rfl
 | 78, _ => by kernel_rfl
 | 79, _ => by kernel_rfl
 | n + 80, h => absurd h (by omega)
theorem arP : ∀ op, arB Tryz.prog 22 op = some (arV op)
 | .negSucc m => negP m
 | .ofNat k => by
  rcases Nat.lt_or_ge k 80 with h | h
  ·exact arP_in k h
  ·obtain ⟨m, rfl⟩ : ∃ m, k = m + 80 := ⟨k - 80, by omega⟩
   exact bigP m
theorem negM (m : Nat) : arB Tryz.prog 12 (.negSucc m) = some (arV (.negSucc m)) := by kernel_rfl
theorem bigM (m : Nat) : arB Tryz.prog 12 (.ofNat (m + 80)) = some (arV (.ofNat (m + 80))) := by kernel_rfl
theorem arM_in : ∀ k, k < 80 → arB Tryz.prog 12 (.ofNat k) = some (arV (.ofNat k))
 | 0, _ => by kernel_rfl
 | 1, _ => by kernel_rfl
 | 2, _ => by kernel_rfl
 | 3, _ => by kernel_rfl
 | 4, _ => by kernel_rfl
 | 5, _ => by kernel_rfl
 | 6, _ => by kernel_rfl
 | 7, _ => by kernel_rfl
 | 8, _ => by kernel_rfl
 | 9, _ => by kernel_rfl
 | 10, _ => by kernel_rfl
 | 11, _ => by kernel_rfl
 | 12, _ => by kernel_rfl
 | 13, _ => by kernel_rfl
 | 14, _ => by kernel_rfl
 | 15, _ => by kernel_rfl
 | 16, _ => by kernel_rfl
 | 17, _ => by kernel_rfl
 | 18, _ => by kernel_rfl
 | 19, _ => by kernel_rfl
 | 20, _ => by kernel_rfl
 | 21, _ => by kernel_rfl
 | 22, _ => by kernel_rfl
 | 23, _ => by kernel_rfl
 | 24, _ => by kernel_rfl
 | 25, _ => by kernel_rfl
 | 26, _ => by kernel_rfl
 | 27, _ => by kernel_rfl
 | 28, _ => by kernel_rfl
 | 29, _ => by kernel_rfl
 | 30, _ => by kernel_rfl
 | 31, _ => by kernel_rfl
 | 32, _ => by kernel_rfl
 | 33, _ => by kernel_rfl
 | 34, _ => by kernel_rfl
 | 35, _ => by kernel_rfl
 | 36, _ => by kernel_rfl
 | 37, _ => by kernel_rfl
 | 38, _ => by kernel_rfl
 | 39, _ => by kernel_rfl
 | 40, _ => by kernel_rfl
 | 41, _ => by kernel_rfl
 | 42, _ => by kernel_rfl
 | 43, _ => by kernel_rfl
 | 44, _ => by kernel_rfl
 | 45, _ => by kernel_rfl
 | 46, _ => by kernel_rfl
 | 47, _ => by kernel_rfl
 | 48, _ => by kernel_rfl
 | 49, _ => by kernel_rfl
 | 50, _ => by kernel_rfl
 | 51, _ => by kernel_rfl
 | 52, _ => by kernel_rfl
 | 53, _ => by kernel_rfl
 | 54, _ => by kernel_rfl
 | 55, _ => by kernel_rfl
 | 56, _ => by kernel_rfl
 | 57, _ => by kernel_rfl
 | 58, _ => by kernel_rfl
 | 59, _ => by kernel_rfl
 | 60, _ => by kernel_rfl
 | 61, _ => by kernel_rfl
 | 62, _ => by kernel_rfl
 | 63, _ => by kernel_rfl
 | 64, _ => by kernel_rfl
 | 65, _ => by kernel_rfl
 | 66, _ => by kernel_rfl
 | 67, _ => by kernel_rfl
 | 68, _ => by kernel_rfl
 | 69, _ => by kernel_rfl
 | 70, _ => by kernel_rfl
 | 71, _ => by kernel_rfl
 | 72, _ => by kernel_rfl
 | 73, _ => by kernel_rfl
 | 74, _ => by kernel_rfl
 | 75, _ => by kernel_rfl
 | 76, _ => by kernel_rfl
 | 77, _ => by kernel_rfl
 | 78, _ => by kernel_rfl
 | 79, _ => by kernel_rfl
 | n + 80, h => absurd h (by omega)
theorem arM : ∀ op, arB Tryz.prog 12 op = some (arV op)
 | .negSucc m => negM m
 | .ofNat k => by
  rcases Nat.lt_or_ge k 80 with h | h
  ·exact arM_in k h
  ·obtain ⟨m, rfl⟩ : ∃ m, k = m + 80 := ⟨k - 80, by omega⟩
   exact bigM m
def FAr : List AV → Option AV
 | [.int .i64 op] => some (arV op)
 | _ => none
theorem k22a : ∀ (args : List AV) (s : St) (E : Env) (w : World) (vs : List Value), Rel E s w → GlobOk E G0 w → VRL E args vs → ResOk Tryz.prog E s w 22 vs (pureX FAr args s) := flat_known (D := noLive) (m := 0) (loops := 0) (n := 5) hm hn G0_plain kT fun ar x h => by
 unfold FAr at h
 split at h
 ·cases h; exact ⟨rfl, rfl, arP _⟩
 ·cases h
theorem k12a : ∀ (args : List AV) (s : St) (E : Env) (w : World) (vs : List Value), Rel E s w → GlobOk E G0 w → VRL E args vs → ResOk Tryz.prog E s w 12 vs (pureX FAr args s) := flat_known (D := noLive) (m := 0) (loops := 0) (n := 5) hm hn G0_plain kT fun ar x h => by
 unfold FAr at h
 split at h
 ·cases h; exact ⟨rfl, rfl, arM _⟩
 ·cases h
end Go.Am.Sto
end
section
namespace Go.Am.Sto
open Go Go.Am Go.Proofs
def F116z (d : Hid) : List AV → Option (Bool × AV × Hid)
 | [.hptr 0, .agg [.int .i64 a, .int .i64 b], .agg [.int .i64 c, .int .i64 e], .int .i64 k] => some (eqI (kindOf d.rows a b) 0 && (eqI (kindOf d.rows c e) 0 && !leI k 0), .tup [.bool (same2 a c b e), .int .i64 (kM k), .int .i64 0], d)
 | _ => none
section
variable (isn : Int → Int → Bool) (ng : Int → Bool) (ls : Int → List AV) (ln : Int → Nat) (le : Int → Bool) (g : Bool → List AV → Nat → Bool → Bool) (v : Bool → List AV → Int)
def XZ : Known := (((((X3.add 22 (pureX FAr)).add 38 (methX F38y)).add 83 (methX F83z)).add 116 (methX F116z)).add 114 (methX (m2F (numZ isn ng ls ln le)))).add 36 (readX (F36v g v))
def YZ {β : Type} : KnownK β := (((((Y3.add 22 (pureK FAr)).add 38 (methK F38y)).add 83 (methK F83z)).add 116 (methK F116z)).add 114 (methK2 (numZ isn ng ls ln le))).add 36 (smK g v)
def apZ (P : Program) (tt : Bool) (d : Hid) (op : Int) (cs : List AV) (n : Nat) : Option R := bodyY P G2 (XZ isn ng ls ln le g v) (YZ isn ng ls ln le g v) 90 20 noLive Res.meth? 100 P.funcs[10]? [.hptr 0, .int .i64 op, .lst cs n tt false] (St.one d)
variable (tt : Bool) (d : Hid) (a b c e f h : Int)
abbrev kz (d : Hid) (a b : Int) : Bool := eqI (kindOf d.rows a b) 0
abbrev E10 (d : Hid) : Option R := gV d 0 0 10
abbrev TF (d : Hid) (u : Bool) : Option R := byB u (gV d 1 0 0) (gV d 2 0 0)
abbrev refK (d : Hid) (a b : Int) : Option R := ifK (okp d (v1 a b) 1) (ifK (kz d a b) (E10 d))
abbrev refK2 (d : Hid) (a b c e : Int) : Option R := ifK (okp d (v2 a b c e) 2) (ifK (kz d a b) (E10 d))
theorem z11 : apZ isn ng ls ln le g v Tryz.prog tt d 11 (v1 a b) 1 = ifK (okp d (v1 a b) 1) (ifK (kz d a b) (byB (isn a b) (gV d 1 0 0) (gV d 2 0 0))) := by kernel_rfl
theorem z13 : apZ isn ng ls ln le g v Tryz.prog tt d 13 (v1 a b) 1 = refK d a b := by kernel_rfl
theorem z14 : apZ isn ng ls ln le g v Tryz.prog tt d 14 (v1 a b) 1 = refK d a b := by kernel_rfl
theorem z15 : apZ isn ng ls ln le g v Tryz.prog tt d 15 (v2 a b c e) 2 = refK2 d a b c e := by kernel_rfl
theorem z16 : apZ isn ng ls ln le g v Tryz.prog tt d 16 (v2 a b c e) 2 = refK2 d a b c e := by kernel_rfl
theorem z17 : apZ isn ng ls ln le g v Tryz.prog tt d 17 (v1 a b) 1 = ifK (okp d (v1 a b) 1) (ifK (kz d a b) (gV d 2 0 0)) := by kernel_rfl
theorem z18 : apZ isn ng ls ln le g v Tryz.prog tt d 18 (v1 a b) 1 = ifK (okp d (v1 a b) 1) (TF d (eqI a 0)) := by kernel_rfl
theorem z20 : apZ isn ng ls ln le g v Tryz.prog tt d 20 (v1 a b) 1 = ifK (okp d (v1 a b) 1) (ifK (listB d a b) (byB (eqI (elems d a b).2.1 0) (gV d 1 0 0) (gV d 2 0 0))) := by kernel_rfl
theorem z21 : apZ isn ng ls ln le g v Tryz.prog tt d 21 (v1 a b) 1 = ifK (okp d (v1 a b) 1) (ifK (listB d a b) (byB (eqI (elems d a b).2.1 0) (gV d 4 (.ofNat (elems d a b).1.length) 0) (gV d 0 0 10))) := by kernel_rfl
theorem z25 : apZ isn ng ls ln le g v Tryz.prog tt d 25 (v2 a b c e) 2 = refK2 d a b c e := by kernel_rfl
theorem z26 : apZ isn ng ls ln le g v Tryz.prog tt d 26 (v3 a b c e f h) 3 = ifK (okp d (v3 a b c e f h) 3) (ifK (kz d a b) (E10 d)) := by kernel_rfl
theorem z27 : apZ isn ng ls ln le g v Tryz.prog tt d 27 (v1 a b) 1 = refK d a b := by kernel_rfl
theorem z28 : apZ isn ng ls ln le g v Tryz.prog tt d 28 (v1 a b) 1 = ifK (okp d (v1 a b) 1) (ifK (kz d a b) (gV d 2 0 0)) := by kernel_rfl
theorem z30 : apZ isn ng ls ln le g v Tryz.prog tt d 30 (v1 a b) 1 = refK d a b := by kernel_rfl
abbrev sB (a b c e : Int) : Bool := bif false then !same2 a c b e else same2 a c b e
theorem z31 : apZ isn ng ls ln le g v Tryz.prog tt d 31 (v2 a b c e) 2 = ifK (okp d (v2 a b c e) 2) (byB (sB a b c e) (gV d 1 0 0) (ifK (kz d a b) (gV d 2 0 0))) := by kernel_rfl
theorem z32 : apZ isn ng ls ln le g v Tryz.prog tt d 32 (v2 a b c e) 2 = ifK (okp d (v2 a b c e) 2) (byB (sB a b c e) (gV d 1 0 0) (ifK (kz d a b) (gV d 2 0 0))) := by kernel_rfl
theorem z33 : apZ isn ng ls ln le g v Tryz.prog tt d 33 (v2 a b c e) 2 = ifK (okp d (v2 a b c e) 2) (ifK (eqI (kindOf d.rows a b) 0 && (eqI (kindOf d.rows c e) 0 && true)) (TF d (same2 a c b e))) := by kernel_rfl
theorem z34 : apZ isn ng ls ln le g v Tryz.prog tt d 34 (v1 a b) 1 = ifK (okp d (v1 a b) 1) (TF d (eqI a 2)) := by kernel_rfl
theorem z35 : apZ isn ng ls ln le g v Tryz.prog tt d 35 (v1 a b) 1 = ifK (okp d (v1 a b) 1) (byB (eqI a 2) (gV d 1 0 0) (TF d (eqI a 1))) := by kernel_rfl
theorem z36 : apZ isn ng ls ln le g v Tryz.prog tt d 36 (v1 a b) 1 = ifK (okp d (v1 a b) 1) (TF d (eqI a 6)) := by kernel_rfl
theorem z37 : apZ isn ng ls ln le g v Tryz.prog tt d 37 (v1 a b) 1 = ifK (okp d (v1 a b) 1) (byB (!eqI a 6) (E10 d) (byB (sndB d.rows.length a b) none (E10 d))) := by kernel_rfl
theorem z38 : apZ isn ng ls ln le g v Tryz.prog tt d 38 (v1 a b) 1 = refK d a b := by kernel_rfl
theorem z39 : apZ isn ng ls ln le g v Tryz.prog tt d 39 (v1 a b) 1 = ifK (okp d (v1 a b) 1) (ifK (kz d a b) (gV d 2 0 0)) := by kernel_rfl
theorem z40 : apZ isn ng ls ln le g v Tryz.prog tt d 40 (v1 a b) 1 = refK d a b := by kernel_rfl
theorem z41 : apZ isn ng ls ln le g v Tryz.prog tt d 41 (v2 a b c e) 2 = refK2 d a b c e := by kernel_rfl
theorem z43 : apZ isn ng ls ln le g v Tryz.prog tt d 43 (v2 a b c e) 2 = refK2 d a b c e := by kernel_rfl
theorem z44 : apZ isn ng ls ln le g v Tryz.prog tt d 44 (v1 a b) 1 = refK d a b := by kernel_rfl
theorem z46 : apZ isn ng ls ln le g v Tryz.prog tt d 46 (v1 a b) 1 = ifK (okp d (v1 a b) 1) (TF d (eqI a 5)) := by kernel_rfl
theorem z47 : apZ isn ng ls ln le g v Tryz.prog tt d 47 (v1 a b) 1 = ifK (okp d (v1 a b) 1) (byB (!eqI a 5) (E10 d) (gV d 4 b 0)) := by kernel_rfl
theorem z50 : apZ isn ng ls ln le g v Tryz.prog tt d 50 (v1 a b) 1 = refK d a b := by kernel_rfl
theorem z51 : apZ isn ng ls ln le g v Tryz.prog tt d 51 (v2 a b c e) 2 = refK2 d a b c e := by kernel_rfl
theorem z52 : apZ isn ng ls ln le g v Tryz.prog tt d 52 (v1 a b) 1 = ifK (okp d (v1 a b) 1) (ifK (kz d a b) (gV d 2 0 0)) := by kernel_rfl
theorem z54 : apZ isn ng ls ln le g v Tryz.prog tt d 54 (v1 a b) 1 = ifK (okp d (v1 a b) 1) (ifK (kz d a b) (TF d (eqI a 8))) := by kernel_rfl
theorem z56 : apZ isn ng ls ln le g v Tryz.prog tt d 56 (v1 a b) 1 = refK d a b := by kernel_rfl
theorem z58 : apZ isn ng ls ln le g v Tryz.prog tt d 58 (v1 a b) 1 = ifK (okp d (v1 a b) 1) (ifK (kz d a b) (gV d 2 0 0)) := by kernel_rfl
abbrev noO (a b : Int) (x : Option R) : Option R := byB (!eqI a 7) x (byB (!leI 0 b) x none)
theorem z59 : apZ isn ng ls ln le g v Tryz.prog tt d 59 (v1 a b) 1 = ifK (okp d (v1 a b) 1) (noO a b (gV d 2 0 0)) := by kernel_rfl
theorem z60 : apZ isn ng ls ln le g v Tryz.prog tt d 60 (v1 a b) 1 = ifK (okp d (v1 a b) 1) (noO a b (E10 d)) := by kernel_rfl
theorem z61 : apZ isn ng ls ln le g v Tryz.prog tt d 61 (v2 a b c e) 2 = ifK (okp d (v2 a b c e) 2) (noO a b (E10 d)) := by kernel_rfl
theorem z62 : apZ isn ng ls ln le g v Tryz.prog tt d 62 (v1 a b) 1 = ifK (okp d (v1 a b) 1) (noO a b (E10 d)) := by kernel_rfl
theorem z63 : apZ isn ng ls ln le g v Tryz.prog tt d 63 (v2 a b c e) 2 = ifK (okp d (v2 a b c e) 2) (noO a b (E10 d)) := by kernel_rfl
theorem z12 : apZ isn ng ls ln le g v Tryz.prog tt d 12 (v2 a b c e) 2 = ifK (okp d (v2 a b c e) 2) (mV (mkOf d 1 [(a, b), (c, e)])) := by kernel_rfl
theorem z49 : apZ isn ng ls ln le g v Tryz.prog tt d 49 (v1 a b) 1 = ifK (okp d (v1 a b) 1) (mV (mkOf d 3 [(a, b)])) := by kernel_rfl
theorem z53 (nl : Bool) : bodyY Tryz.prog G2 (XZ isn ng ls ln le g v) (YZ isn ng ls ln le g v) 90 20 noLive Res.meth? 100 Tryz.prog.funcs[10]? [.hptr 0, .int .i64 53, .lst [] 0 tt nl] (St.one d) = gV d 3 0 0 := by kernel_rfl
theorem z29 : apZ isn ng ls ln le g v Tryz.prog tt d 29 (v1 a b) 1 = ifK (okp d (v1 a b) 1) (ifK (listB d a b) (byB (eqI (elems d a b).2.1 0)
  (ifK (AV.plain (lstA (elems d a b).1)) (ifK (isCells (cellsA (elems d a b).1) (elems d a b).1.length && (Nat.ble (elems d a b).1.length 900 && (okAll d.rows.length (ofCells (cellsA (elems d a b).1)) && (bif (elems d a b).1.length.beq 0 then (elems d a b).1.isEmpty else !(elems d a b).1.isEmpty))))
   (mV (mkOf d 2 (ofCells (cellsA (elems d a b).1)))))) (gV d 0 0 10))) := by kernel_rfl
abbrev scA (q : Int) (x y : Option R) : Option R := byB (leI 0 q) (byB (!leI 55296 q) x (byB (!leI q 57343) (byB (leI q 1114111) x y) y)) (byB (!leI q 57343) (byB (leI q 1114111) x y) y)
theorem z48 : apZ isn ng ls ln le g v Tryz.prog tt d 48 (v1 a b) 1 = ifK (okp d (v1 a b) 1) (ifK (kz d a b) (byB (isn a b) (ifK (g (ng b) (ls b) (ln b) (le b)) (byB (leI 0 (v (ng b) (ls b))) (byB (leI (v (ng b) (ls b)) 1114111) (scA (IntKind.i32.wrap (v (ng b) (ls b))) (gV d 5 (v (ng b) (ls b)) 0) (gV d 0 0 12)) (gV d 0 0 12)) (gV d 0 0 12))) (E10 d))) := by kernel_rfl
end
end Go.Am.Sto
end
section
namespace Go.Am.Sto
open Go Go.Am Go.Proofs
def runStr (P : Program) (j r q : Nat) (l : List (TypeId × List AV)) (slots : AV) : Option (AV × RowI × RowI × RowI × RowI) :=
 bodyY P G0 XS2 YS2 5 8 noLive (mkR j r q) 5 P.funcs[38]? [.ptr 0 0, .int .i64 4, slots] (St.rows l)
section
variable (L U : Int) (tt : Bool) (m : Nat) (cs : List AV) (o : Ob × Value) (rs : List (Ob × Value))
theorem str00 : runStr Tryz.prog 0 6 4 [(66, sto0 L U)] (.lst [] 0 tt true) =
  ifK (chk1 L U) (byB (full L U 0) (some (errV 16, some (sto0 L U, 66, true), some (sto0 L U, 66, true), none, some (zero2, 29, true)))
   (ifK (chk2 U) (some (objV 0, some (sto1 L (pay U 0) 6 1, 66, true), some (sto1 L (pay U 0) 6 1, 66, true), some (.int .i64 4 :: mt :: rest8, 115, true), some (new2 0, 29, true))))) := by kernel_rfl
theorem str01 : runStr Tryz.prog 0 8 4 [(66, sto0 L U)] (.lst cs (m + 1) tt false) =
  ifK (AV.plain (.lst cs (m + 1) tt false)) (ifK (preV cs (m + 1) 0 (stoV L U [] 0 true true)) (ifK (Nat.ble (0 + (m + 1)) 1073741824) (optK (fun new => ifK (new.all AV.single)
   (ifK (chk1 L U) (byB (full L U (0 + (m + 1))) (some (errV 16, some (sto0 L U, 66, true), some (sto0 L U, 66, true), none, some (new, 29, true)))
    (ifK (chk2 U) (some (objV 0, some (sto1 L (pay U (0 + (m + 1))) 8 1, 66, true), some (sto1 L (pay U (0 + (m + 1))) 8 1, 66, true), some (.int .i64 4 :: .sl 4 0 (0 + (m + 1)) 2 false :: rest8, 115, true), some (new, 29, true))))))) (takeN ((m + 1) * 2) cs)))) := by kernel_rfl
theorem str10 : runStr Tryz.prog 1 7 5 [(66, sto1 L U 1 (rs.length + 1)), (115, objsP (o :: rs))] (.lst [] 0 tt true) =
  ifK (preV [] 0 (rs.length + 1) (stoV L U (blurL (objsP (o :: rs))) (rs.length + 1) false false)) (ifK (chk1 L U) (byB (full L U 0) (some (errV 16, some (sto1 L U 1 (rs.length + 1), 66, true), some (objsP (o :: rs), 115, true), none, some (zero2, 29, true)))
   (ifK (chk2 U) (ifK (Nat.ble (rs.length + 1 + 1) 1073741824) (optK (fun old => some (objV (lastN rs.length), some (sto1 L (pay U 0) 7 (rs.length + 1 + 1), 66, true), some (objsP (o :: rs), 115, stale (objsP (o :: rs)).length (rs.length + 1)),
    some (old ++ (.int .i64 4 :: mt :: rest8), 115, fresh1 (objsP (o :: rs)).length (rs.length + 1)), some (new2 (lastN rs.length), 29, true))) (cutN ((rs.length + 1) * 10) 0 (objsP (o :: rs)))))))) := by kernel_rfl
theorem str11 : runStr Tryz.prog 1 9 5 [(66, sto1 L U 1 (rs.length + 1)), (115, objsP (o :: rs))] (.lst cs (m + 1) tt false) =
  ifK (AV.plain (.lst cs (m + 1) tt false)) (ifK (preV cs (m + 1) (rs.length + 1) (stoV L U (blurL (objsP (o :: rs))) (rs.length + 1) false false)) (ifK (Nat.ble (0 + (m + 1)) 1073741824) (optK (fun new => ifK (new.all AV.single)
   (ifK (chk1 L U) (byB (full L U (0 + (m + 1))) (some (errV 16, some (sto1 L U 1 (rs.length + 1), 66, true), some (objsP (o :: rs), 115, true), none, some (new, 29, true)))
    (ifK (chk2 U) (ifK (Nat.ble (rs.length + 1 + 1) 1073741824) (optK (fun old => some (objV (lastN rs.length), some (sto1 L (pay U (0 + (m + 1))) 9 (rs.length + 1 + 1), 66, true), some (objsP (o :: rs), 115, stale (objsP (o :: rs)).length (rs.length + 1)),
     some (old ++ (.int .i64 4 :: .sl 5 0 (0 + (m + 1)) 2 false :: rest8), 115, fresh1 (objsP (o :: rs)).length (rs.length + 1)), some (new, 29, true))) (cutN ((rs.length + 1) * 10) 0 (objsP (o :: rs))))))))) (takeN ((m + 1) * 2) cs)))) := by kernel_rfl
end
end Go.Am.Sto
end
section
namespace Go.Am.Sto
open Go Go.Am Go.Proofs
def F38t (d : Hid) : List AV → Option (Bool × AV × Hid)
 | [.hptr 0, .int .i64 4, .lst cs m _ nl] => some (isCells cs m && (Nat.ble m 900 && (okAll d.rows.length (ofCells cs) && (bif m.beq 0 then nl else !nl))), getV (mkOf d 4 (ofCells cs)).1, (mkOf d 4 (ofCells cs)).2)
 | _ => none
theorem k38t : MethOk Tryz.prog G0 38 F38t := pres_known (D := noLive) (m := 5) (loops := 5) (n := 8) (Sees := Sees) (Ends := Ends) hm hn G0_plain kXS2 sees (fun d b own w l ar x d' hS hF => by
 unfold F38t at hF
 split at hF
 ·rename_i cs m tt nl
  obtain ⟨L, U, s1, s2, s3, s4, s5, s6⟩ := hS
  simp only [Option.some.injEq, Prod.mk.injEq, Bool.and_eq_true] at hF
  obtain ⟨⟨p1, p2, p3, p4⟩, rfl, rfl⟩ := hF
  obtain ⟨p5, p6⟩ := isCells_eq p1
  have hm9 : m ≤ 900 := Nat.le_of_ble_eq_true p2
  generalize hsl : ofCells cs = sl at *
  subst p5
  have hmk : mkOf d 4 sl = byB (full L U m) (((0, 0), 16), d) (((7, .ofNat d.rows.length), 0), ⟨0, [L, pay U m], d.rows ++ [(4, sl)], []⟩) := by
   unfold mkOf; rw [s2]; simp only [p3, p6]
  rw [hmk]
  refine ⟨_, rfl, ?_⟩
  have hplain : AV.plains [.int .i64 4, .lst (cellsA sl) m tt nl] = true := by
   show (AV.plain (.int .i64 4) && (AV.plains (cellsA sl) && true)) = true
   rw [cellsA_plains]; rfl
  refine ⟨hplain, ?_⟩
  have run : ∀ {ll : List (TypeId × List AV)} {slots : AV} {j r q : Nat} {x a b c e}, runStr Tryz.prog j r q ll slots = some (x, a, b, c, e) → ∃ s', bodyD Tryz.prog G0 (callN Tryz.prog G0 XS2 5 8) noLive 5 Tryz.prog.funcs[38]? [.ptr 0 0, .int .i64 4, slots] (St.rows ll) = .ret x s' ∧ rowI s' 0 = a ∧ rowI s' j = b ∧ rowI s' r = c ∧ rowI s' q = e := fun h => of_mkR (bodyY_le kYS2 h)
  cases m with
  | zero =>
   have hs0 : sl = [] := List.eq_nil_of_length_eq_zero p6
   subst hs0
   simp only [Nat.beq, cond_true] at p4
   subst p4
   rcases s6 with ⟨h7, rfl⟩ | ⟨bo, base, o, rs, sb, m1, rfl, m3, m4, m5⟩
   ·have hn0 : d.rows.length = 0 := by rw [h7]; rfl
    have tree := str00 L U tt
    rw [chk1_t, chk2_t] at tree
    cases hfu : full L U 0 with
    | true =>
     rw [hfu] at tree
     obtain ⟨s', r1, r2, _⟩ := run tree
     exact ⟨rfl, s', r1, ends_same0 r2⟩
    | false =>
     rw [hfu] at tree
     obtain ⟨s', r1, r2, _, r3, r4⟩ := run tree
     rw [hn0]
     exact ⟨rfl, s', r1, .inr ⟨L, U, pay U 0, 6, 4, 4, [], [], mt, s2, rfl, fit_more s4 (by omega) hfu, by rw [hn0]; exact r2, r3, .inl ⟨rfl, rfl⟩, .inr ⟨rfl, rfl⟩⟩⟩
   ·have hn1 : d.rows.length = rs.length + 1 := by rw [← m1]; simp
    have tree := str10 L U tt o rs
    have hble : Nat.ble (rs.length + 1 + 1) 1073741824 = true := Nat.ble_eq_true_of_le (by
     obtain ⟨q1, q2, q3, q4⟩ := s4
     rw [hn1] at q4; omega)
    have hpre : preV [] 0 (rs.length + 1) (stoV L U (blurL (objsP (o :: rs))) (rs.length + 1) false false) = true := by
     unfold preV
     rw [ask_under L U (o :: rs), sto_plain L U (o :: rs)]; rfl
    rw [hpre, chk1_t, chk2_t, hble, cut_objs (o :: rs) (rs.length + 1) rfl] at tree
    cases hfu : full L U 0 with
    | true =>
     rw [hfu] at tree
     obtain ⟨s', r1, r2, r3, _⟩ := run tree
     exact ⟨rfl, s', r1, ends_same1 r2 r3⟩
    | false =>
     rw [hfu] at tree
     have hi : lastN rs.length = Int.ofNat (rs.length + 1) := by
      obtain ⟨q1, q2, q3, q4⟩ := s4
      rw [hn1] at q4
      unfold lastN
      rw [wrap64 (by simp only [Int.ofNat_eq_natCast]; omega) (by simp only [Int.ofNat_eq_natCast]; omega)]
      simp only [Int.ofNat_eq_natCast]; omega
     have tree2 : runStr Tryz.prog 1 7 5 [(66, sto1 L U 1 (rs.length + 1)), (115, objsP (o :: rs))] (.lst [] 0 tt true) = some (objV (lastN rs.length), some (sto1 L (pay U 0) 7 (rs.length + 1 + 1), 66, true), some (objsP (o :: rs), 115, stale (objsP (o :: rs)).length (rs.length + 1)),
      some (objsP (o :: rs) ++ (.int .i64 4 :: mt :: rest8), 115, fresh1 (objsP (o :: rs)).length (rs.length + 1)), some (new2 (lastN rs.length), 29, true)) := tree
     rw [hi, show fresh1 (objsP (o :: rs)).length (rs.length + 1) = true from beq_self' _] at tree2
     obtain ⟨s', r1, r2, _, r3, r4⟩ := run tree2
     rw [hn1]
     exact ⟨rfl, s', r1, .inr ⟨L, U, pay U 0, 7, 5, 4, [], objsP (o :: rs), mt, s2, rfl, fit_more s4 (by omega) hfu, by rw [hn1]; exact r2, r3, .inr ⟨_, rfl, rfl⟩, .inr ⟨rfl, rfl⟩⟩⟩
  | succ m =>
   have hne : sl ≠ [] := fun e => by rw [e] at p6; cases p6
   have hnl : nl = false := by simpa [Nat.beq] using p4
   subst hnl
   have hpl : AV.plain (.lst (cellsA sl) (m + 1) tt false) = true := by
    show AV.plains (cellsA sl) = true
    exact cellsA_plains sl
   have h30 : Nat.ble (0 + (m + 1)) 1073741824 = true := Nat.ble_eq_true_of_le (by omega)
   have htk : takeN ((m + 1) * 2) (cellsA sl) = some (cellsA sl) := by rw [← p6]; exact cellsA_take sl
   have h0m : 0 + (m + 1) = m + 1 := by omega
   rcases s6 with ⟨h7, rfl⟩ | ⟨bo, base, o, rs, sb, m1, rfl, m3, m4, m5⟩
   ·have hn0 : d.rows.length = 0 := by rw [h7]; rfl
    have tree := str01 L U tt m (cellsA sl)
    have hpre : preV (cellsA sl) (m + 1) 0 (stoV L U [] 0 true true) = true := by
     unfold preV
     rw [hn0] at p3
     rw [p1, p2, ofCells_cells, p3]; rfl
    rw [hpl, hpre, h30, htk] at tree
    have tree : ifK ((cellsA sl).all AV.single) (ifK (chk1 L U) (byB (full L U (0 + (m + 1))) (some (errV 16, some (sto0 L U, 66, true), some (sto0 L U, 66, true), none, some (cellsA sl, 29, true)))
     (ifK (chk2 U) (some (objV 0, some (sto1 L (pay U (0 + (m + 1))) 8 1, 66, true), some (sto1 L (pay U (0 + (m + 1))) 8 1, 66, true), some (.int .i64 4 :: .sl 4 0 (0 + (m + 1)) 2 false :: rest8, 115, true), some (cellsA sl, 29, true)))))) = runStr Tryz.prog 0 8 4 [(66, sto0 L U)] (.lst (cellsA sl) (m + 1) tt false) := tree.symm
    rw [cellsA_single, chk1_t, chk2_t, h0m] at tree
    cases hfu : full L U (m + 1) with
    | true =>
     rw [hfu] at tree
     obtain ⟨s', r1, r2, _⟩ := run tree.symm
     exact ⟨rfl, s', r1, ends_same0 r2⟩
    | false =>
     rw [hfu] at tree
     obtain ⟨s', r1, r2, _, r3, r4⟩ := run tree.symm
     rw [hn0]
     exact ⟨rfl, s', r1, .inr ⟨L, U, pay U (m + 1), 8, 4, 4, sl, [], _, s2, rfl, fit_more s4 (by omega) hfu, by rw [hn0]; exact r2, r3, .inl ⟨rfl, rfl⟩, .inl ⟨hne, by rw [p6], r4⟩⟩⟩
   ·have hn1 : d.rows.length = rs.length + 1 := by rw [← m1]; simp
    have tree := str11 L U tt m (cellsA sl) o rs
    have hble : Nat.ble (rs.length + 1 + 1) 1073741824 = true := Nat.ble_eq_true_of_le (by
     obtain ⟨q1, q2, q3, q4⟩ := s4
     rw [hn1] at q4; omega)
    have hpre : preV (cellsA sl) (m + 1) (rs.length + 1) (stoV L U (blurL (objsP (o :: rs))) (rs.length + 1) false false) = true := by
     unfold preV
     rw [hn1] at p3
     rw [p1, p2, ofCells_cells, p3, ask_under L U (o :: rs), sto_plain L U (o :: rs)]; rfl
    rw [hpl, hpre, h30, htk] at tree
    have tree : ifK ((cellsA sl).all AV.single) (ifK (chk1 L U) (byB (full L U (0 + (m + 1))) (some (errV 16, some (sto1 L U 1 (rs.length + 1), 66, true), some (objsP (o :: rs), 115, true), none, some (cellsA sl, 29, true)))
     (ifK (chk2 U) (ifK (Nat.ble (rs.length + 1 + 1) 1073741824) (optK (fun old => some (objV (lastN rs.length), some (sto1 L (pay U (0 + (m + 1))) 9 (rs.length + 1 + 1), 66, true), some (objsP (o :: rs), 115, stale (objsP (o :: rs)).length (rs.length + 1)),
     some (old ++ (.int .i64 4 :: .sl 5 0 (0 + (m + 1)) 2 false :: rest8), 115, fresh1 (objsP (o :: rs)).length (rs.length + 1)), some (cellsA sl, 29, true))) (cutN ((rs.length + 1) * 10) 0 (objsP (o :: rs)))))))) = runStr Tryz.prog 1 9 5 [(66, sto1 L U 1 (rs.length + 1)), (115, objsP (o :: rs))] (.lst (cellsA sl) (m + 1) tt false) := tree.symm
    rw [cellsA_single, chk1_t, chk2_t, h0m, hble, cut_objs (o :: rs) (rs.length + 1) rfl] at tree
    cases hfu : full L U (m + 1) with
    | true =>
     rw [hfu] at tree
     obtain ⟨s', r1, r2, r3, _⟩ := run tree.symm
     exact ⟨rfl, s', r1, ends_same1 r2 r3⟩
    | false =>
     rw [hfu] at tree
     have hi : lastN rs.length = Int.ofNat (rs.length + 1) := by
      obtain ⟨q1, q2, q3, q4⟩ := s4
      rw [hn1] at q4
      unfold lastN
      rw [wrap64 (by simp only [Int.ofNat_eq_natCast]; omega) (by simp only [Int.ofNat_eq_natCast]; omega)]
      simp only [Int.ofNat_eq_natCast]; omega
     have tree2 : runStr Tryz.prog 1 9 5 [(66, sto1 L U 1 (rs.length + 1)), (115, objsP (o :: rs))] (.lst (cellsA sl) (m + 1) tt false) = some (objV (lastN rs.length), some (sto1 L (pay U (m + 1)) 9 (rs.length + 1 + 1), 66, true), some (objsP (o :: rs), 115, stale (objsP (o :: rs)).length (rs.length + 1)),
      some (objsP (o :: rs) ++ (.int .i64 4 :: .sl 5 0 (m + 1) 2 false :: rest8), 115, fresh1 (objsP (o :: rs)).length (rs.length + 1)), some (cellsA sl, 29, true)) := tree.symm
     rw [hi, show fresh1 (objsP (o :: rs)).length (rs.length + 1) = true from beq_self' _] at tree2
     obtain ⟨s', r1, r2, _, r3, r4⟩ := run tree2
     rw [hn1]
     exact ⟨rfl, s', r1, .inr ⟨L, U, pay U (m + 1), 9, 5, 4, sl, objsP (o :: rs), _, s2, rfl, fit_more s4 (by omega) hfu, by rw [hn1]; exact r2, r3, .inr ⟨_, rfl, rfl⟩, .inl ⟨hne, by rw [p6], r4⟩⟩⟩
 ·cases hF) ends
end Go.Am.Sto
end
section
namespace Go.Am.Sto
open Go Go.Am Go.Proofs
def runBig (P : Program) (j r q : Nat) (l : List (TypeId × List AV)) (slots : AV) : Option (AV × RowI × RowI × RowI × RowI) :=
 bodyY P G0 XS2 YS2 5 8 noLive (mkR j r q) 5 P.funcs[38]? [.ptr 0 0, .int .i64 5, slots] (St.rows l)
section
variable (L U : Int) (tt : Bool) (m : Nat) (cs : List AV) (o : Ob × Value) (rs : List (Ob × Value))
theorem big00 : runBig Tryz.prog 0 6 4 [(66, sto0 L U)] (.lst [] 0 tt true) =
  ifK (chk1 L U) (byB (full L U 0) (some (errV 16, some (sto0 L U, 66, true), some (sto0 L U, 66, true), none, some (zero2, 29, true)))
   (ifK (chk2 U) (some (objV 0, some (sto1 L (pay U 0) 6 1, 66, true), some (sto1 L (pay U 0) 6 1, 66, true), some (.int .i64 5 :: mt :: rest8, 115, true), some (new2 0, 29, true))))) := by kernel_rfl
theorem big01 : runBig Tryz.prog 0 8 4 [(66, sto0 L U)] (.lst cs (m + 1) tt false) =
  ifK (AV.plain (.lst cs (m + 1) tt false)) (ifK (preV cs (m + 1) 0 (stoV L U [] 0 true true)) (ifK (Nat.ble (0 + (m + 1)) 1073741824) (optK (fun new => ifK (new.all AV.single)
   (ifK (chk1 L U) (byB (full L U (0 + (m + 1))) (some (errV 16, some (sto0 L U, 66, true), some (sto0 L U, 66, true), none, some (new, 29, true)))
    (ifK (chk2 U) (some (objV 0, some (sto1 L (pay U (0 + (m + 1))) 8 1, 66, true), some (sto1 L (pay U (0 + (m + 1))) 8 1, 66, true), some (.int .i64 5 :: .sl 4 0 (0 + (m + 1)) 2 false :: rest8, 115, true), some (new, 29, true))))))) (takeN ((m + 1) * 2) cs)))) := by kernel_rfl
theorem big10 : runBig Tryz.prog 1 7 5 [(66, sto1 L U 1 (rs.length + 1)), (115, objsP (o :: rs))] (.lst [] 0 tt true) =
  ifK (preV [] 0 (rs.length + 1) (stoV L U (blurL (objsP (o :: rs))) (rs.length + 1) false false)) (ifK (chk1 L U) (byB (full L U 0) (some (errV 16, some (sto1 L U 1 (rs.length + 1), 66, true), some (objsP (o :: rs), 115, true), none, some (zero2, 29, true)))
   (ifK (chk2 U) (ifK (Nat.ble (rs.length + 1 + 1) 1073741824) (optK (fun old => some (objV (lastN rs.length), some (sto1 L (pay U 0) 7 (rs.length + 1 + 1), 66, true), some (objsP (o :: rs), 115, stale (objsP (o :: rs)).length (rs.length + 1)),
    some (old ++ (.int .i64 5 :: mt :: rest8), 115, fresh1 (objsP (o :: rs)).length (rs.length + 1)), some (new2 (lastN rs.length), 29, true))) (cutN ((rs.length + 1) * 10) 0 (objsP (o :: rs)))))))) := by kernel_rfl
theorem big11 : runBig Tryz.prog 1 9 5 [(66, sto1 L U 1 (rs.length + 1)), (115, objsP (o :: rs))] (.lst cs (m + 1) tt false) =
  ifK (AV.plain (.lst cs (m + 1) tt false)) (ifK (preV cs (m + 1) (rs.length + 1) (stoV L U (blurL (objsP (o :: rs))) (rs.length + 1) false false)) (ifK (Nat.ble (0 + (m + 1)) 1073741824) (optK (fun new => ifK (new.all AV.single)
   (ifK (chk1 L U) (byB (full L U (0 + (m + 1))) (some (errV 16, some (sto1 L U 1 (rs.length + 1), 66, true), some (objsP (o :: rs), 115, true), none, some (new, 29, true)))
    (ifK (chk2 U) (ifK (Nat.ble (rs.length + 1 + 1) 1073741824) (optK (fun old => some (objV (lastN rs.length), some (sto1 L (pay U (0 + (m + 1))) 9 (rs.length + 1 + 1), 66, true), some (objsP (o :: rs), 115, stale (objsP (o :: rs)).length (rs.length + 1)),
     some (old ++ (.int .i64 5 :: .sl 5 0 (0 + (m + 1)) 2 false :: rest8), 115, fresh1 (objsP (o :: rs)).length (rs.length + 1)), some (new, 29, true))) (cutN ((rs.length + 1) * 10) 0 (objsP (o :: rs))))))))) (takeN ((m + 1) * 2) cs)))) := by kernel_rfl
end
end Go.Am.Sto
end
