/- MachNil: which values may be there, where there are no objects and no names. -/
import Derived.Test.YtaiddjgpnpbckaaGreatDoorAmRead
import Derived.Test.YtaiddjgpnpbckaaGreatDoorProg
set_option autoImplicit false
set_option maxRecDepth 100000
namespace Go.Am.Mach
open Go Go.Am Go.Proofs
def G0 : Glob := ⟨fun _ => none, fun _ _ _ _ => False⟩
theorem G0_plain : GlobPlain G0 := fun _ _ h => by cases h

theorem leI_iff : ∀ {a b : Int}, leI a b = decide (a ≤ b)
  | .ofNat a, .ofNat b => by
    rw [Bool.eq_iff_iff, decide_eq_true_iff]
    simp only [leI, Nat.ble_eq]
    exact Int.ofNat_le.symm
  | .negSucc _, .ofNat _ => by simp [leI]; omega
  | .ofNat _, .negSucc _ => by simp [leI]; omega
  | .negSucc a, .negSucc b => by
    rw [Bool.eq_iff_iff, decide_eq_true_iff]
    simp only [leI, Nat.ble_eq]
    omega

def yes : Option AV := some (.bool true)
def no : Option AV := some (.bool false)
def scal (N : Int) : Bool := byB (leI 0 N) (byB (leI N 1114111) (byB (leI 55296 N) (byB (leI N 57343) false true) true) false) false
def sndV (t N : Int) : Bool :=
  match t with
  | .ofNat 0 | .ofNat 1 | .ofNat 2 | .ofNat 3 | .ofNat 9 => eqI N 0
  | .ofNat 4 => true
  | .ofNat 5 => scal N
  | .ofNat 8 => byB (leI 0 N) (leI N 255) false
  | _ => false

/-! ## The program's -/
def st26 (j k : IntKind) (a b t N : Int) : List AV := [.ptrL [.int j a, .int k b, .lst [] 0 true true, .lst [] 0 true true, .undef] 0, .agg [.int .i64 t, .int .i64 N]]
def run26 (P : Program) (j k : IntKind) (a b t N : Int) : Option AV := bodyK P G0 .none 0 5 noLive Res.val? 0 P.funcs[26]? (st26 j k a b t N) St.empty
section
variable (j k : IntKind) (a b N : Int)
theorem p0 : run26 Tryz.prog j k a b 0 N = some (.bool (eqI N 0)) := by kernel_rfl
theorem p1 : run26 Tryz.prog j k a b 1 N = some (.bool (eqI N 0)) := by kernel_rfl
theorem p2 : run26 Tryz.prog j k a b 2 N = some (.bool (eqI N 0)) := by kernel_rfl
theorem p3 : run26 Tryz.prog j k a b 3 N = some (.bool (eqI N 0)) := by kernel_rfl
theorem p9 : run26 Tryz.prog j k a b 9 N = some (.bool (eqI N 0)) := by kernel_rfl
theorem p4 : run26 Tryz.prog j k a b 4 N = yes := by kernel_rfl
def vr3 (q : Int) : Option AV := byB (!leI q 57343) (byB (leI q 1114111) yes no) no
def vr (q : Int) : Option AV := byB (leI 0 q) (byB (!leI 55296 q) yes (vr3 q)) (vr3 q)
theorem p5 : run26 Tryz.prog j k a b 5 N = byB (leI 0 N) (byB (leI N 1114111) (vr (IntKind.i32.wrap N)) no) no := by kernel_rfl
theorem p8 : run26 Tryz.prog j k a b 8 N = byB (leI 0 N) (some (.bool (!leI 256 N))) no := by kernel_rfl
theorem p6 : run26 Tryz.prog j k a b 6 N = byB (leI 0 N) (some (.bool (!leI 0 N))) no := by kernel_rfl
theorem p7n (n : Nat) : run26 Tryz.prog j k a b 7 (.ofNat n) = no := by kernel_rfl
theorem p7m (n : Nat) : run26 Tryz.prog j k a b 7 (.negSucc n) = no := by kernel_rfl
theorem pbig (m : Nat) : run26 Tryz.prog j k a b (.ofNat (m + 10)) N = no := by kernel_rfl
theorem pneg (m : Nat) : run26 Tryz.prog j k a b (.negSucc m) N = no := by kernel_rfl
end

/-! ## The model's -/
def st18 (j k : IntKind) (a b t N : Int) : List AV := [.ptrL [.int j a, .int k b, .lst [] 0 true true, .lst [] 0 true true] 0, .agg [.int .i64 t, .int .i64 N]]
def run18 (P : Program) (j k : IntKind) (a b t N : Int) : Option AV := bodyK P G0 .none 0 5 noLive Res.val? 0 P.funcs[18]? (st18 j k a b t N) St.empty
section
variable (j k : IntKind) (a b N : Int)
theorem m0 : run18 Tryz.prog j k a b 0 N = some (.bool (eqI N 0)) := by kernel_rfl
theorem m1 : run18 Tryz.prog j k a b 1 N = some (.bool (eqI N 0)) := by kernel_rfl
theorem m2 : run18 Tryz.prog j k a b 2 N = some (.bool (eqI N 0)) := by kernel_rfl
theorem m3 : run18 Tryz.prog j k a b 3 N = some (.bool (eqI N 0)) := by kernel_rfl
theorem m9 : run18 Tryz.prog j k a b 9 N = some (.bool (eqI N 0)) := by kernel_rfl
theorem m4 : run18 Tryz.prog j k a b 4 N = yes := by kernel_rfl
theorem m5 : run18 Tryz.prog j k a b 5 N = byB (leI 0 N) (byB (leI N 1114111) (byB (leI 55296 N) (byB (leI N 57343) no yes) yes) no) no := by kernel_rfl
theorem m8 : run18 Tryz.prog j k a b 8 N = byB (leI 0 N) (some (.bool (leI N 255))) no := by kernel_rfl
theorem m6 : run18 Tryz.prog j k a b 6 N = byB (leI 0 N) (some (.bool (!leI 0 N))) no := by kernel_rfl
theorem m7 : run18 Tryz.prog j k a b 7 N = byB (leI 0 N) (some (.bool (!leI 0 N))) no := by kernel_rfl
theorem mbig (m : Nat) : run18 Tryz.prog j k a b (.ofNat (m + 10)) N = no := by kernel_rfl
theorem mneg (m : Nat) : run18 Tryz.prog j k a b (.negSucc m) N = no := by kernel_rfl
end

theorem leI_t {a b : Int} (h : a ≤ b) : leI a b = true := by rw [leI_iff]; simpa using h
theorem leI_f {a b : Int} (h : b < a) : leI a b = false := by rw [leI_iff]; simp; omega
theorem wrap32 {N : Int} (h0 : 0 ≤ N) (h1 : N ≤ 1114111) : IntKind.i32.wrap N = N := by
  have e : IntKind.i32.wrap N = if N % 4294967296 ≥ 2147483648 then N % 4294967296 - 4294967296 else N % 4294967296 := by
    unfold IntKind.wrap
    simp [IntKind.signed, IntKind.bits]
  rw [e]
  omega

theorem vr_eq {N : Int} (h0 : 0 ≤ N) (h1 : N ≤ 1114111) : vr (IntKind.i32.wrap N) = byB (leI 55296 N) (byB (leI N 57343) no yes) yes := by
  rw [wrap32 h0 h1]
  unfold vr vr3
  rw [leI_t h0, leI_t h1]
  by_cases h2 : 55296 ≤ N
  · rw [leI_t h2]
    by_cases h3 : N ≤ 57343
    · rw [leI_t h3]; rfl
    · rw [leI_f (show 57343 < N by omega)]; rfl
  · rw [leI_f (show N < 55296 by omega)]; rfl

theorem scal_tree (N : Int) : byB (leI 0 N) (byB (leI N 1114111) (byB (leI 55296 N) (byB (leI N 57343) no yes) yes) no) no = some (.bool (scal N)) := by
  unfold scal
  cases leI 0 N <;> cases leI N 1114111 <;> cases leI 55296 N <;> cases leI N 57343 <;> rfl

theorem run18_eq (j k : IntKind) (a b : Int) : ∀ t N : Int, run18 Tryz.prog j k a b t N = some (.bool (sndV t N))
  | .ofNat 0, N => m0 j k a b N
  | .ofNat 1, N => m1 j k a b N
  | .ofNat 2, N => m2 j k a b N
  | .ofNat 3, N => m3 j k a b N
  | .ofNat 4, N => m4 j k a b N
  | .ofNat 5, N => (m5 j k a b N).trans (scal_tree N)
  | .ofNat 6, N => (m6 j k a b N).trans (by cases h : leI 0 N <;> rfl)
  | .ofNat 7, N => (m7 j k a b N).trans (by cases h : leI 0 N <;> rfl)
  | .ofNat 8, N => (m8 j k a b N).trans (by show _ = some (AV.bool (byB (leI 0 N) (leI N 255) false)); cases h : leI 0 N <;> rfl)
  | .ofNat 9, N => m9 j k a b N
  | .ofNat (m + 10), N => mbig j k a b N m
  | .negSucc m, N => mneg j k a b N m

theorem run26_eq (j k : IntKind) (a b : Int) : ∀ t N : Int, run26 Tryz.prog j k a b t N = some (.bool (sndV t N))
  | .ofNat 0, N => p0 j k a b N
  | .ofNat 1, N => p1 j k a b N
  | .ofNat 2, N => p2 j k a b N
  | .ofNat 3, N => p3 j k a b N
  | .ofNat 4, N => p4 j k a b N
  | .ofNat 5, N => by
    refine (p5 j k a b N).trans (Eq.trans ?_ (scal_tree N))
    by_cases h0 : 0 ≤ N
    · by_cases h1 : N ≤ 1114111
      · rw [vr_eq h0 h1]
      · rw [leI_f (show 1114111 < N by omega)]
    · rw [leI_f (show N < 0 by omega)]
  | .ofNat 6, N => (p6 j k a b N).trans (by cases h : leI 0 N <;> rfl)
  | .ofNat 7, .ofNat n => p7n j k a b n
  | .ofNat 7, .negSucc n => p7m j k a b n
  | .ofNat 8, N => (p8 j k a b N).trans (by
    show _ = some (AV.bool (byB (leI 0 N) (leI N 255) false))
    by_cases h : N ≤ 255
    · rw [leI_t h, leI_f (show N < 256 by omega)]; cases leI 0 N <;> rfl
    · rw [leI_f (show 255 < N by omega), leI_t (show 256 ≤ N by omega)]; cases leI 0 N <;> rfl)
  | .ofNat 9, N => p9 j k a b N
  | .ofNat (m + 10), N => pbig j k a b N m
  | .negSucc m, N => pneg j k a b N m

def F26 : List AV → Option AV
  | [.ptrL [.int _ _, .int _ _, .lst [] 0 true true, .lst [] 0 true true, .undef] 0, .agg [.int .i64 t, .int .i64 N]] => some (.bool (sndV t N))
  | _ => none
def F18 : List AV → Option AV
  | [.ptrL [.int _ _, .int _ _, .lst [] 0 true true, .lst [] 0 true true] 0, .agg [.int .i64 t, .int .i64 N]] => some (.bool (sndV t N))
  | _ => none

theorem hm : Tryz.prog.follows .mixedOrders = true := by kernel_rfl
theorem hn_all : (Tryz.prog.funcs.toList.all fun fn => !(fn.name == "runtime.NumGoroutine")) = true := by kernel_rfl
theorem hn : NoNG Tryz.prog := fun f fn h e => by
  have := List.all_eq_true.1 hn_all fn (Array.mem_toList_iff.2 (Array.mem_of_getElem? h))
  rw [e] at this
  exact absurd this (by decide)

theorem k26 : ReadOk Tryz.prog G0 26 F26 := read_known (D := noLive) (m := 0) (loops := 0) (n := 5) (F := F26) hm hn G0_plain (KnownOk.none _ _) fun q x h => by
  unfold F26 at h
  split at h
  · cases h; exact ⟨rfl, run26_eq _ _ _ _ _ _⟩
  · cases h
theorem k18 : ReadOk Tryz.prog G0 18 F18 := read_known (D := noLive) (m := 0) (loops := 0) (n := 5) (F := F18) hm hn G0_plain (KnownOk.none _ _) fun q x h => by
  unfold F18 at h
  split at h
  · cases h; exact ⟨rfl, run18_eq _ _ _ _ _ _⟩
  · cases h
end Go.Am.Mach
