import Derived.Test.YtlibahklbbachaaGreatDoorTx8
import Derived.Test.YtlibahklbbachaaGreatDoorTx10
import Derived.Test.YtlibahklbbachaaGreatDoorTx14
set_option autoImplicit false
set_option maxRecDepth 100000
set_option linter.unusedSimpArgs false
set_option linter.unusedVariables false
set_option maxHeartbeats 8000000
section
namespace Go.Am
end Go.Am
namespace Go.Am.Txt
open Go Go.Am
theorem ifK_t {β : Type} {c : Bool} (h : c = true) (x : Option β) : ifK c x = x := by rw [h]; rfl
theorem byB_t {β : Type} {c : Bool} (h : c = true) (x y : β) : byB c x y = x := by rw [h]
theorem byB_f {β : Type} {c : Bool} (h : c = false) (x y : β) : byB c x y = y := by rw [h]
theorem wI {n : Nat} (h : n < 9223372036854775808) : IntKind.i64.wrap (.ofNat n) = .ofNat n := by
  have e : IntKind.i64.wrap (.ofNat n) = if Int.ofNat n % 18446744073709551616 ≥ 9223372036854775808 then Int.ofNat n % 18446744073709551616 - 18446744073709551616 else Int.ofNat n % 18446744073709551616 := by
    unfold IntKind.wrap
    simp [IntKind.signed, IntKind.bits]
  rw [e]; simp only [Int.ofNat_eq_natCast]; omega
theorem wIz {z : Int} (h0 : -9223372036854775808 ≤ z) (h1 : z < 9223372036854775808) : IntKind.i64.wrap z = z := by
  have e : IntKind.i64.wrap z = if z % 18446744073709551616 ≥ 9223372036854775808 then z % 18446744073709551616 - 18446744073709551616 else z % 18446744073709551616 := by
    unfold IntKind.wrap
    simp [IntKind.signed, IntKind.bits]
  rw [e]; omega
theorem wA {i k : Nat} (h : i + k < 9223372036854775808) : IntKind.i64.wrap (.ofNat i + .ofNat k) = .ofNat (i + k) := wI h
theorem bytes_all : ∀ {l : List Nat}, (∀ c ∈ l, c < 256) → bytesOf (bytesA l) = some l
  | [], _ => rfl
  | c :: l, h => by
    have ih := bytes_all (l := l) fun x hx => h x (by simp [hx])
    have hc := h c (by simp)
    show (bif Nat.blt c 256 then (match bytesOf (bytesA l) with | some q => some (c :: q) | none => none) else none) = _
    rw [ih, show Nat.blt c 256 = true by simpa using hc]; rfl
theorem addY {β : Type} {X : Known} {Y : KnownK β} (hY : KnownKOk X Y) (f : FuncId) {h : List AV → St → Res} {hk : List AV → St → (Res → Option β) → Option β}
    (hh : ∀ args s (kr kr' : Res → Option β), (∀ r, Le (kr r) (kr' r)) → Le (hk args s kr) (kr' (h args s))) : KnownKOk (X.add f h) (Y.add f hk) := by
  intro g q hq
  unfold KnownK.add at hq
  rcases Bool.eq_false_or_eq_true (Nat.beq g f) with hb | hb
  · rw [cond_of_true hb] at hq
    cases hq
    exact ⟨h, by unfold Known.add; rw [cond_of_true hb], hh⟩
  · rw [cond_of_false hb] at hq
    obtain ⟨h', h1, h2⟩ := hY g q hq
    exact ⟨h', by unfold Known.add; rw [cond_of_false hb]; exact h1, h2⟩
end Go.Am.Txt
end
section
namespace Go.Am.Txt
open Go Go.Am Go.Proofs Go.Am.Sto
def firstTab : List Int := List.replicate 128 240 ++ (List.replicate 66 241 ++ (List.replicate 30 2 ++ (19 :: (List.replicate 12 3 ++ (35 :: 3 :: 3 :: 52 :: 4 :: 4 :: 4 :: 68 :: List.replicate 11 241)))))
def acceptTab : List Int := [128, 191, 160, 191, 128, 159, 144, 191, 128, 143] ++ List.replicate 22 0
def GU (H : HT) : Glob := { at_ := fun g => match g with | 0 => some (firstTab.map (AV.int .u8)) | 1 => some (acceptTab.map (AV.int .u8)) | 3 => some [.ifc 275 .undef] | 4 => some (Lib.pow10Tab.map (AV.int .u64)) | _ => none, H := H, siz := fun g => match g with | 4 => some 20 | _ => none }
theorem GU_plain (H : HT) : GlobPlain (GU H) := fun g cs h => by
  unfold GU at h
  simp only at h
  split at h
  · cases h; kernel_rfl
  · cases h; kernel_rfl
  · cases h; rfl
  · cases h; kernel_rfl
  · cases h
def and8 (a b : Int) : Int := IntKind.u8.wrap (Int.ofNat (BitVec.ofInt 8 a &&& BitVec.ofInt 8 b).toNat)
def or32 (a b : Int) : Int := IntKind.i32.wrap (Int.ofNat (BitVec.ofInt 32 a ||| BitVec.ofInt 32 b).toNat)
def shl (a : Int) (k : Nat) : Int := IntKind.i32.wrap (IntKind.i32.wrap a * 2 ^ min k 32)
def low (b : Int) : Int := and8 b 63
def R2 (a b : Int) : Int := or32 (shl (and8 a 31) 6) (IntKind.i32.wrap (low b))
def R3 (a b c : Int) : Int := or32 (or32 (shl (and8 a 15) 12) (shl (low b) 6)) (IntKind.i32.wrap (low c))
def R4 (a b c d : Int) : Int := or32 (or32 (or32 (shl (and8 a 7) 18) (shl (low b) 12)) (shl (low c) 6)) (IntKind.i32.wrap (low d))
def rune (c k : Int) : Option AV := some (.tup [.int .i32 c, .int .i64 k])
def bad : Option AV := rune 65533 1
def inB (lo hi b : Int) (x : Option AV) : Option AV := byB (!leI lo b) bad (byB (!leI b hi) bad x)
def lo3 (b : Nat) : Int := byB (Nat.beq b 224) 160 128
def hi3 (b : Nat) : Int := byB (Nat.beq b 237) 159 191
def lo4 (b : Nat) : Int := byB (Nat.beq b 240) 144 128
def hi4 (b : Nat) : Int := byB (Nat.beq b 244) 143 191
def b165 (H : HT) (P : Program) (cs : List AV) (n : Nat) (t nl : Bool) : Option AV := bodyY P (GU H) .none .none 3 5 noLive Res.freshV? 2 P.funcs[165]? [.lst cs n t nl] St.empty
abbrev u8 (b : Int) : AV := .int .u8 b
section
variable (H : HT) (b1 b2 b3 : Int) (cs : List AV) (n : Nat) (t nl : Bool)
theorem t165_2 (k : Nat) (h : k < 30) : b165 H Tryz.prog (u8 (.ofNat (194 + k)) :: u8 b1 :: cs) (n + 2) t nl = inB 128 191 b1 (rune (R2 (.ofNat (194 + k)) b1) 2) := match k, h with
  | 0, _ => by as_aux_lemma => kernel_rfl
  | 1, _ => by as_aux_lemma => kernel_rfl
  | 2, _ => by as_aux_lemma => kernel_rfl
  | 3, _ => by as_aux_lemma => kernel_rfl
  | 4, _ => by as_aux_lemma => kernel_rfl
  | 5, _ => by as_aux_lemma => kernel_rfl
  | 6, _ => by as_aux_lemma => kernel_rfl
  | 7, _ => by as_aux_lemma => kernel_rfl
  | 8, _ => by as_aux_lemma => kernel_rfl
  | 9, _ => by as_aux_lemma => kernel_rfl
  | 10, _ => by as_aux_lemma => kernel_rfl
  | 11, _ => by as_aux_lemma => kernel_rfl
  | 12, _ => by as_aux_lemma => kernel_rfl
  | 13, _ => by as_aux_lemma => kernel_rfl
  | 14, _ => by as_aux_lemma => kernel_rfl
  | 15, _ => by as_aux_lemma => kernel_rfl
  | 16, _ => by as_aux_lemma => kernel_rfl
  | 17, _ => by as_aux_lemma => kernel_rfl
  | 18, _ => by as_aux_lemma => kernel_rfl
  | 19, _ => by as_aux_lemma => kernel_rfl
  | 20, _ => by as_aux_lemma => kernel_rfl
  | 21, _ => by as_aux_lemma => kernel_rfl
  | 22, _ => by as_aux_lemma => kernel_rfl
  | 23, _ => by as_aux_lemma => kernel_rfl
  | 24, _ => by as_aux_lemma => kernel_rfl
  | 25, _ => by as_aux_lemma => kernel_rfl
  | 26, _ => by as_aux_lemma => kernel_rfl
  | 27, _ => by as_aux_lemma => kernel_rfl
  | 28, _ => by as_aux_lemma => kernel_rfl
  | 29, _ => by as_aux_lemma => kernel_rfl
  | k + 30, h => absurd h (by omega)
theorem t165_3 (k : Nat) (h : k < 16) : b165 H Tryz.prog (u8 (.ofNat (224 + k)) :: u8 b1 :: u8 b2 :: cs) (n + 3) t nl = inB (lo3 (224 + k)) (hi3 (224 + k)) b1 (inB 128 191 b2 (rune (R3 (.ofNat (224 + k)) b1 b2) 3)) := match k, h with
  | 0, _ => by as_aux_lemma => kernel_rfl
  | 1, _ => by as_aux_lemma => kernel_rfl
  | 2, _ => by as_aux_lemma => kernel_rfl
  | 3, _ => by as_aux_lemma => kernel_rfl
  | 4, _ => by as_aux_lemma => kernel_rfl
  | 5, _ => by as_aux_lemma => kernel_rfl
  | 6, _ => by as_aux_lemma => kernel_rfl
  | 7, _ => by as_aux_lemma => kernel_rfl
  | 8, _ => by as_aux_lemma => kernel_rfl
  | 9, _ => by as_aux_lemma => kernel_rfl
  | 10, _ => by as_aux_lemma => kernel_rfl
  | 11, _ => by as_aux_lemma => kernel_rfl
  | 12, _ => by as_aux_lemma => kernel_rfl
  | 13, _ => by as_aux_lemma => kernel_rfl
  | 14, _ => by as_aux_lemma => kernel_rfl
  | 15, _ => by as_aux_lemma => kernel_rfl
  | k + 16, h => absurd h (by omega)
theorem t165_4 (k : Nat) (h : k < 5) : b165 H Tryz.prog (u8 (.ofNat (240 + k)) :: u8 b1 :: u8 b2 :: u8 b3 :: cs) (n + 4) t nl = inB (lo4 (240 + k)) (hi4 (240 + k)) b1 (inB 128 191 b2 (inB 128 191 b3 (rune (R4 (.ofNat (240 + k)) b1 b2 b3) 4))) := match k, h with
  | 0, _ => by as_aux_lemma => kernel_rfl
  | 1, _ => by as_aux_lemma => kernel_rfl
  | 2, _ => by as_aux_lemma => kernel_rfl
  | 3, _ => by as_aux_lemma => kernel_rfl
  | 4, _ => by as_aux_lemma => kernel_rfl
  | k + 5, h => absurd h (by omega)
end
end Go.Am.Txt
end
section
namespace Go.Am.Txt
open Go Go.Am Go.Proofs Go.Am.Sto
/-! ## Bytes -/
def enc (c : Nat) : List Nat :=
  if c < 128 then [c] else if c < 2048 then [192 + c / 64, 128 + c % 64] else if c < 65536 then [224 + c / 4096, 128 + c / 64 % 64, 128 + c % 64]
  else [240 + c / 262144, 128 + c / 4096 % 64, 128 + c / 64 % 64, 128 + c % 64]
def okc (c : Nat) : Bool := Nat.ble c 1114111 && (Nat.blt c 55296 || Nat.blt 57343 c)
theorem okc_le {c : Nat} (h : okc c = true) : c ≤ 1114111 := by unfold okc at h; exact Nat.le_of_ble_eq_true (Bool.and_eq_true_iff.1 h).1
theorem okc_or {c : Nat} (h : okc c = true) : c < 55296 ∨ 57343 < c := by unfold okc at h; simpa using (Bool.and_eq_true_iff.1 h).2
theorem enc_lt {c : Nat} (h : c ≤ 1114111) : ∀ b ∈ enc c, b < 256 := by
  unfold enc
  split
  · simp; omega
  split
  · simp; omega
  split
  · simp; omega
  · simp; omega
theorem enc_ne (c : Nat) : enc c ≠ [] := by unfold enc; split; · simp
                                            split; · simp
                                            split <;> simp
theorem enc_le (c : Nat) : 1 ≤ (enc c).length ∧ (enc c).length ≤ 4 := by unfold enc; split; · simp
                                                                         split; · simp
                                                                         split <;> simp
theorem wI32 {x : Int} (h0 : 0 ≤ x) (h1 : x < 2147483648) : IntKind.i32.wrap x = x := by
  have e : IntKind.i32.wrap x = if x % 4294967296 ≥ 2147483648 then x % 4294967296 - 4294967296 else x % 4294967296 := by
    unfold IntKind.wrap
    simp [IntKind.signed, IntKind.bits]
  rw [e]; omega
theorem wI32n {n : Nat} (h : n < 2147483648) : IntKind.i32.wrap (.ofNat n) = .ofNat n := wI32 (Int.natCast_nonneg n) (by simp only [Int.ofNat_eq_natCast]; omega)
theorem low_ok : ∀ k, k < 64 → low (.ofNat (128 + k)) = .ofNat k := by decide +kernel
theorem top2_ok : ∀ k, k < 30 → and8 (.ofNat (194 + k)) 31 = .ofNat (2 + k) := by decide +kernel
theorem top3_ok : ∀ k, k < 16 → and8 (.ofNat (224 + k)) 15 = .ofNat k := by decide +kernel
theorem top4_ok : ∀ k, k < 5 → and8 (.ofNat (240 + k)) 7 = .ofNat k := by decide +kernel
theorem shl_ok {a k : Nat} (hk : k ≤ 32) (h : a * 2 ^ k < 2147483648) : shl (.ofNat a) k = .ofNat (a * 2 ^ k) := by
  have h2 : a ≤ a * 2 ^ k := Nat.le_mul_of_pos_right _ (Nat.two_pow_pos k)
  unfold shl
  rw [wI32n (by omega), Nat.min_eq_left hk]
  have e : Int.ofNat a * 2 ^ k = Int.ofNat (a * 2 ^ k) := by simp
  rw [e, wI32n (by omega)]
theorem or_ok {x i b : Nat} (hb : b < 2 ^ i) (h : x * 2 ^ i + b < 2147483648) : or32 (.ofNat (x * 2 ^ i)) (.ofNat b) = .ofNat (x * 2 ^ i + b) := by
  unfold or32
  have e : (BitVec.ofInt 32 (Int.ofNat (x * 2 ^ i)) ||| BitVec.ofInt 32 (Int.ofNat b)).toNat = x * 2 ^ i + b := by
    rw [BitVec.toNat_or]
    have e1 : ∀ n : Nat, n < 2147483648 → (BitVec.ofInt 32 (Int.ofNat n)).toNat = n := fun n hn => by
      rw [BitVec.toNat_ofInt]; simp only [Int.ofNat_eq_natCast]; omega
    rw [e1 _ (by omega), e1 _ (by omega), Nat.mul_comm x, ← Nat.two_pow_add_eq_or_of_lt hb]
  rw [e, wI32n (by omega)]
theorem R2_ok {k j : Nat} (hk : k < 30) (hj : j < 64) : R2 (.ofNat (194 + k)) (.ofNat (128 + j)) = .ofNat ((2 + k) * 64 + j) := by
  unfold R2
  rw [top2_ok k hk, low_ok j hj, shl_ok (by omega) (by omega), wI32n (by omega), or_ok (by omega) (by omega)]
theorem R3_ok {k i j : Nat} (hk : k < 16) (hi : i < 64) (hj : j < 64) : R3 (.ofNat (224 + k)) (.ofNat (128 + i)) (.ofNat (128 + j)) = .ofNat (k * 4096 + i * 64 + j) := by
  unfold R3
  rw [top3_ok k hk, low_ok j hj, low_ok i hi, shl_ok (by omega) (by omega), shl_ok (by omega) (by omega), wI32n (by omega), or_ok (by omega) (by omega),
    show k * 2 ^ 12 + i * 2 ^ 6 = (k * 64 + i) * 2 ^ 6 by omega, or_ok (by omega) (by omega), show (k * 64 + i) * 2 ^ 6 + j = k * 4096 + i * 64 + j by omega]
theorem R4_ok {k i h j : Nat} (hk : k < 5) (hi : i < 64) (hh : h < 64) (hj : j < 64) : R4 (.ofNat (240 + k)) (.ofNat (128 + i)) (.ofNat (128 + h)) (.ofNat (128 + j)) = .ofNat (k * 262144 + i * 4096 + h * 64 + j) := by
  unfold R4
  rw [top4_ok k hk, low_ok j hj, low_ok i hi, low_ok h hh, shl_ok (by omega) (by omega), shl_ok (by omega) (by omega), shl_ok (by omega) (by omega), wI32n (by omega), or_ok (by omega) (by omega),
    show k * 2 ^ 18 + i * 2 ^ 12 = (k * 64 + i) * 2 ^ 12 by omega, or_ok (by omega) (by omega), show (k * 64 + i) * 2 ^ 12 + h * 2 ^ 6 = (k * 4096 + i * 64 + h) * 2 ^ 6 by omega, or_ok (by omega) (by omega), show (k * 4096 + i * 64 + h) * 2 ^ 6 + j = k * 262144 + i * 4096 + h * 64 + j by omega]
theorem inB_ok {lo hi b : Int} {x : Option AV} (h1 : lo ≤ b) (h2 : b ≤ hi) : inB lo hi b x = x := by
  unfold inB
  rw [leI_t h1, leI_t h2]; rfl
theorem bytes_app (l r : List Nat) : bytesA (l ++ r) = bytesA l ++ bytesA r := by simp [bytesA]
theorem b165_enc (H : HT) {c : Nat} (hc : okc c = true) (h1 : 128 ≤ c) (r : List AV) (m : Nat) (t nl : Bool) : b165 H Tryz.prog (bytesA (enc c) ++ r) ((enc c).length + m) t nl = rune c (.ofNat (enc c).length) := by
  have hle := okc_le hc
  have hor := okc_or hc
  unfold enc
  rw [if_neg (by omega)]
  by_cases h2 : c < 2048
  · rw [if_pos h2]
    obtain ⟨k, hk, e⟩ : ∃ k, k < 30 ∧ 192 + c / 64 = 194 + k := ⟨c / 64 - 2, by omega, by omega⟩
    rw [e, show [194 + k, 128 + c % 64].length + m = m + 2 by simp; omega]
    refine (t165_2 H (.ofNat (128 + c % 64)) r m t nl k hk).trans ?_
    rw [inB_ok (by simp only [Int.ofNat_eq_natCast]; omega) (by simp only [Int.ofNat_eq_natCast]; omega), R2_ok hk (by omega), show (2 + k) * 64 + c % 64 = c by omega]
    rfl
  rw [if_neg h2]
  by_cases h3 : c < 65536
  · rw [if_pos h3]
    have hk : c / 4096 < 16 := by omega
    rw [show [224 + c / 4096, 128 + c / 64 % 64, 128 + c % 64].length + m = m + 3 by simp; omega]
    refine (t165_3 H (.ofNat (128 + c / 64 % 64)) (.ofNat (128 + c % 64)) r m t nl (c / 4096) hk).trans ?_
    have b1 : lo3 (224 + c / 4096) ≤ .ofNat (128 + c / 64 % 64) := by
      unfold lo3
      cases h : Nat.beq (224 + c / 4096) 224 with
      | true => have := Nat.eq_of_beq_eq_true h; show (160 : Int) ≤ _; simp only [Int.ofNat_eq_natCast]; omega
      | false => show (128 : Int) ≤ _; simp only [Int.ofNat_eq_natCast]; omega
    have b2 : Int.ofNat (128 + c / 64 % 64) ≤ hi3 (224 + c / 4096) := by
      unfold hi3
      cases h : Nat.beq (224 + c / 4096) 237 with
      | true => have := Nat.eq_of_beq_eq_true h; show _ ≤ (159 : Int); simp only [Int.ofNat_eq_natCast]; omega
      | false => show _ ≤ (191 : Int); simp only [Int.ofNat_eq_natCast]; omega
    rw [inB_ok b1 b2, inB_ok (by simp only [Int.ofNat_eq_natCast]; omega) (by simp only [Int.ofNat_eq_natCast]; omega), R3_ok hk (by omega) (by omega), show c / 4096 * 4096 + c / 64 % 64 * 64 + c % 64 = c by omega]
    rfl
  rw [if_neg h3]
  have hk : c / 262144 < 5 := by omega
  rw [show [240 + c / 262144, 128 + c / 4096 % 64, 128 + c / 64 % 64, 128 + c % 64].length + m = m + 4 by simp; omega]
  refine (t165_4 H (.ofNat (128 + c / 4096 % 64)) (.ofNat (128 + c / 64 % 64)) (.ofNat (128 + c % 64)) r m t nl (c / 262144) hk).trans ?_
  have b1 : lo4 (240 + c / 262144) ≤ .ofNat (128 + c / 4096 % 64) := by
    unfold lo4
    cases h : Nat.beq (240 + c / 262144) 240 with
    | true => have := Nat.eq_of_beq_eq_true h; show (144 : Int) ≤ _; simp only [Int.ofNat_eq_natCast]; omega
    | false => show (128 : Int) ≤ _; simp only [Int.ofNat_eq_natCast]; omega
  have b2 : Int.ofNat (128 + c / 4096 % 64) ≤ hi4 (240 + c / 262144) := by
    unfold hi4
    cases h : Nat.beq (240 + c / 262144) 244 with
    | true => have := Nat.eq_of_beq_eq_true h; show _ ≤ (143 : Int); simp only [Int.ofNat_eq_natCast]; omega
    | false => show _ ≤ (191 : Int); simp only [Int.ofNat_eq_natCast]; omega
  rw [inB_ok b1 b2, inB_ok (by simp only [Int.ofNat_eq_natCast]; omega) (by simp only [Int.ofNat_eq_natCast]; omega), inB_ok (by simp only [Int.ofNat_eq_natCast]; omega) (by simp only [Int.ofNat_eq_natCast]; omega), R4_ok hk (by omega) (by omega) (by omega), show c / 262144 * 262144 + c / 4096 % 64 * 4096 + c / 64 % 64 * 64 + c % 64 = c by omega]
  rfl
/-! ## The character that bytes begin with -/
def dec1 : List Nat → Nat
  | a :: r => if a < 128 then a else match r with
    | b :: r => if a < 224 then (a - 192) * 64 + (b - 128) else match r with
      | c :: r => if a < 240 then (a - 224) * 4096 + (b - 128) * 64 + (c - 128) else match r with
        | d :: _ => (a - 240) * 262144 + (b - 128) * 4096 + (c - 128) * 64 + (d - 128)
        | [] => 0
      | [] => 0
    | [] => 0
  | [] => 0
theorem dec1_enc {c : Nat} (h : c ≤ 1114111) (r : List Nat) : dec1 (enc c ++ r) = c := by
  unfold enc
  split
  · simp only [dec1, List.cons_append]; rw [if_pos (by omega)]
  split
  · simp only [dec1, List.cons_append]; rw [if_neg (by omega), if_pos (by omega)]; omega
  split
  · simp only [dec1, List.cons_append]; rw [if_neg (by omega), if_neg (by omega), if_pos (by omega)]; omega
  · simp only [dec1, List.cons_append]; rw [if_neg (by omega), if_neg (by omega), if_neg (by omega)]; omega
def numsOf (cs : List AV) : List Nat := match bytesOf cs with | some l => l | none => []
def chr (cs : List AV) : Nat := dec1 (numsOf cs)
def wid (cs : List AV) : Nat := (enc (chr cs)).length
def isC (cs : List AV) (n : Nat) : Bool := (bytesOf cs).isSome && (n.beq (numsOf cs).length && (okc (chr cs) && (enc (chr cs)).isPrefixOf (numsOf cs)))
theorem bytesOf_is : ∀ {cs : List AV} {l : List Nat}, bytesOf cs = some l → cs = bytesA l ∧ ∀ b ∈ l, b < 256
  | [], l, h => by cases h; exact ⟨rfl, fun _ h => by cases h⟩
  | .int .u8 (.ofNat n) :: cs, l, h => by
    unfold bytesOf at h
    cases hb : Nat.blt n 256 with
    | false => rw [hb] at h; cases h
    | true =>
      rw [hb] at h
      simp only [cond_true] at h
      cases hq : bytesOf cs with
      | none => rw [hq] at h; cases h
      | some q =>
        rw [hq] at h; cases h
        obtain ⟨rfl, h2⟩ := bytesOf_is hq
        exact ⟨rfl, fun b hb' => by rcases List.mem_cons.1 hb' with rfl | h3; · simpa using hb
                                    exact h2 b h3⟩
theorem isC_is {cs : List AV} {n : Nat} (h : isC cs n = true) : ∃ c r, okc c = true ∧ cs = bytesA (enc c ++ r) ∧ n = (enc c ++ r).length ∧ chr cs = c ∧ (∀ b ∈ r, b < 256) := by
  unfold isC at h
  simp only [Bool.and_eq_true] at h
  obtain ⟨h1, h2, h3, h4⟩ := h
  cases hb : bytesOf cs with
  | none => rw [hb] at h1; cases h1
  | some l =>
    obtain ⟨e, hl⟩ := bytesOf_is hb
    have hn : numsOf cs = l := by unfold numsOf; rw [hb]
    rw [hn] at h2 h4
    obtain ⟨r, hr⟩ := List.isPrefixOf_iff_prefix.1 h4
    exact ⟨chr cs, r, h3, by rw [hr]; exact e, by rw [hr]; exact Nat.eq_of_beq_eq_true h2, rfl, fun b hb' => hl b (by rw [← hr]; simp [hb'])⟩
theorem isC_enc {c : Nat} (hc : okc c = true) {r : List Nat} (hr : ∀ b ∈ r, b < 256) : isC (bytesA (enc c ++ r)) (enc c ++ r).length = true ∧ chr (bytesA (enc c ++ r)) = c ∧ wid (bytesA (enc c ++ r)) = (enc c).length := by
  have hb : bytesOf (bytesA (enc c ++ r)) = some (enc c ++ r) := bytes_all (l := enc c ++ r) fun b h => by
    rcases List.mem_append.1 h with h | h
    · exact enc_lt (okc_le hc) b h
    · exact hr b h
  have hn : numsOf (bytesA (enc c ++ r)) = enc c ++ r := by unfold numsOf; rw [hb]
  have hch : chr (bytesA (enc c ++ r)) = c := by unfold chr; rw [hn, dec1_enc (okc_le hc)]
  refine ⟨?_, hch, by unfold wid; rw [hch]⟩
  unfold isC
  rw [hb, hn, hch, hc]
  simp only [Option.isSome_some, Bool.true_and, Bool.and_eq_true]
  exact ⟨Nat.beq_refl _, List.isPrefixOf_iff_prefix.2 ⟨r, rfl⟩⟩
/-! ## Contracts -/
section
variable (g : List AV → Nat → Bool) (c k : List AV → Nat)
def FRv : List AV → Option (Bool × AV)
  | [.lst cs n _ _] => some (g cs n, .tup [.int .i32 (.ofNat (c cs)), .int .i64 (.ofNat (k cs))])
  | _ => none
end
def isM (cs : List AV) (n : Nat) : Bool := isC cs n && Nat.ble 128 (chr cs)
theorem bytesA_plains : ∀ l : List Nat, AV.plains (bytesA l) = true
  | [] => rfl
  | _ :: l => bytesA_plains l
theorem bytesA_plain (l : List Nat) (n : Nat) (t nl : Bool) : AV.plain (.lst (bytesA l) n t nl) = true := bytesA_plains l
theorem k165 (H : HT) : WOk Tryz.prog (GU H) 165 (FRv isM chr wid) := v_known (D := noLive) (m := 2) (loops := 3) (n := 5) hm hn (GU_plain H) (KnownOk.none _ _) (KnownKOk.none _) fun ar x h => by
  unfold FRv at h
  split at h
  case h_2 => cases h
  rename_i cs n t nl
  simp only [Option.some.injEq, Prod.mk.injEq] at h
  obtain ⟨hg, rfl⟩ := h
  unfold isM at hg
  obtain ⟨h1, h2⟩ := Bool.and_eq_true_iff.1 hg
  obtain ⟨c, r, q1, q2, q3, q4, q5⟩ := isC_is h1
  rw [q4] at h2
  have e : wid cs = (enc c).length := by unfold wid; rw [q4]
  rw [q4, e]
  subst q2 q3
  have := b165_enc H q1 (Nat.le_of_ble_eq_true h2) (bytesA r) r.length t nl
  rw [bytes_app, List.length_append]
  exact this
section
variable (g : List AV → Nat → Bool) (c k : List AV → Nat)
def b120 (H : HT) (P : Program) (cs : List AV) (n : Nat) (t nl : Bool) : Option AV := bodyY P (GU H) (Known.none.add 165 (wX (FRv g c k))) (KnownK.none.add 165 (wK (FRv g c k))) 3 5 noLive Res.freshV? 2 P.funcs[120]? [.lst cs n t nl] St.empty
theorem t120 (H : HT) (b : Int) (cs : List AV) (n : Nat) (t nl : Bool) : b120 g c k H Tryz.prog (u8 b :: cs) (n + 1) t nl =
    byB (!leI 128 b) (rune (IntKind.i32.wrap b) 1) (ifK (AV.plains [.lst (u8 b :: cs) (n + 1) t nl]) (ifK (g (u8 b :: cs) (n + 1)) (rune (.ofNat (c (u8 b :: cs))) (.ofNat (k (u8 b :: cs)))))) := by kernel_rfl
end
theorem k120 (H : HT) : WOk Tryz.prog (GU H) 120 (FRv isC chr wid) := v_known (D := noLive) (m := 2) (loops := 3) (n := 5) hm hn (GU_plain H) ((KnownOk.none _ _).add (k165 H)) (addY (KnownKOk.none _) 165 (wK_le _)) fun ar x h => by
  unfold FRv at h
  split at h
  case h_2 => cases h
  rename_i cs n t nl
  simp only [Option.some.injEq, Prod.mk.injEq] at h
  obtain ⟨hg, rfl⟩ := h
  obtain ⟨c, r, q1, q2, q3, q4, q5⟩ := isC_is hg
  subst q2 q3
  by_cases hc : 128 ≤ c
  · have hM : isM (bytesA (enc c ++ r)) (enc c ++ r).length = true := by unfold isM; rw [hg, q4, Nat.ble_eq_true_of_le hc]; rfl
    obtain ⟨b, l, e, hb⟩ : ∃ b l, enc c = b :: l ∧ 128 ≤ b := by
      unfold enc
      rw [if_neg (by omega)]
      split
      · exact ⟨_, _, rfl, by omega⟩
      split
      · exact ⟨_, _, rfl, by omega⟩
      · exact ⟨_, _, rfl, by omega⟩
    have hp : AV.plains [.lst (bytesA (enc c ++ r)) (enc c ++ r).length t nl] = true := by
      show (AV.plain _ && true) = true
      rw [bytesA_plain]; rfl
    rw [e] at hM hp ⊢
    refine (t120 isM chr wid H (.ofNat b) (bytesA (l ++ r)) (l ++ r).length t nl).trans ?_
    rw [leI_t (by simp only [Int.ofNat_eq_natCast]; omega)]
    exact (ifK_t hp _).trans (ifK_t hM _)
  · have e : enc c = [c] := by unfold enc; rw [if_pos (by omega)]
    have ew : wid (bytesA (enc c ++ r)) = 1 := by unfold wid; rw [q4, e]; rfl
    rw [q4, ew, e]
    refine (t120 isM chr wid H (.ofNat c) (bytesA r) r.length t nl).trans ?_
    rw [leI_f (by simp only [Int.ofNat_eq_natCast]; omega), wI32n (by omega)]
    rfl
end Go.Am.Txt
end
section
namespace Go.Am.Txt
open Go Go.Am Go.Proofs Go.Am.Sto
abbrev W (z : Int) : Int := IntKind.i64.wrap z
def two (c k : Int) : Option AV := some (.tup [.int .i64 c, .int .i64 k])
abbrev zz : Option AV := two 0 0
section
variable (sc : Int → Bool) (bs : Int → List AV) (ln : Int → Nat)
def F28v : List AV → Option (Bool × AV)
  | [.int .i64 c] => some (true, .bool (sc c))
  | _ => none
def F50v : List AV → Option (Bool × AV)
  | [.int .i64 c] => some (true, .lst (bs c) (ln c) true false)
  | _ => none
def b29 (H : HT) (P : Program) (cs : List AV) (n : Nat) (t nl : Bool) (i : Nat) : Option AV := bodyY P (GU H) ((Known.none.add 28 (wX (F28v sc))).add 50 (wX (F50v bs ln))) ((KnownK.none.add 28 (wK (F28v sc))).add 50 (wK (F50v bs ln))) 3 5 noLive Res.freshV? 5 P.funcs[29]? [.lst cs n t nl, .int .i64 (.ofNat i)] St.empty
def fin (v k : Int) : Option AV := byB (sc v) (byB (!eqI (.ofNat (ln v)) k) zz (two v k)) zz
section
variable (cs : List AV) (n i : Nat)
def rd (z : Int) (k : Int → Option AV) : Option AV := optNat (fun a => ifK (Nat.blt a n && nonNil cs) (opt1 .u8 (fun x => byB (!leI 128 (W x)) zz (byB (leI 192 (W x)) zz (k (W x)))) (cs[a * 1]?))) z
def stp (v x : Int) : Int := W (W (W (v * 64) + x) - 128)
def far (k : Int) : Bool := !leI (W (.ofNat i + k)) (.ofNat n)
def T1 (v : Int) : Option AV := byB (far n i 1) zz (fin sc ln v 1)
def T2 (v : Int) : Option AV := byB (far n i 2) zz (rd cs n (W (.ofNat i + 1)) fun x => fin sc ln (stp (W (v - 192)) x) 2)
def T3 (v : Int) : Option AV := byB (far n i 3) zz (rd cs n (W (.ofNat i + 1)) fun x => rd cs n (W (.ofNat i + W (1 + 1))) fun y => fin sc ln (stp (stp (W (v - 224)) x) y) 3)
def T4 (v : Int) : Option AV := byB (far n i 4) zz (rd cs n (W (.ofNat i + 1)) fun x => rd cs n (W (.ofNat i + W (1 + 1))) fun y => rd cs n (W (.ofNat i + W (W (1 + 1) + 1))) fun z => fin sc ln (stp (stp (stp (W (v - 240)) x) y) z) 4)
def D1 (v : Int) : Option AV := byB (leI 128 v) zz (T1 sc ln n i v)
def D2 (v : Int) : Option AV := byB (leI 192 v) (byB (!leI 224 v) (T2 sc ln cs n i v) (D1 sc ln n i v)) (D1 sc ln n i v)
def D3 (v : Int) : Option AV := byB (leI 224 v) (byB (!leI 240 v) (T3 sc ln cs n i v) (D2 sc ln cs n i v)) (D2 sc ln cs n i v)
def D4 (v : Int) : Option AV := byB (leI 240 v) (byB (!leI 248 v) (T4 sc ln cs n i v) (D3 sc ln cs n i v)) (D3 sc ln cs n i v)
def oneT : Option AV := ifK (Nat.blt i n && nonNil cs) (opt1 .u8 (fun b => D4 sc ln cs n i (W b)) (cs[i * 1]?))
end
theorem t29 (H : HT) (cs : List AV) (n i : Nat) (t nl : Bool) : b29 sc bs ln H Tryz.prog cs n t nl i = oneT sc ln cs n i := by kernel_rfl
end
end Go.Am.Txt
end
section
namespace Go.Am.Txt
open Go Go.Am Go.Proofs Go.Am.Sto
def lnc (c : Int) : Nat := byB (!leI 128 c) 1 (byB (!leI 2048 c) 2 (byB (!leI 65536 c) 3 4))
def bsc (c : Int) : List AV := byB (!leI 128 c) [u8 (IntKind.u8.wrap c)] (byB (!leI 2048 c) [u8 (IntKind.u8.wrap (W (192 + W (c.tdiv 64)))), u8 (IntKind.u8.wrap (W (128 + c.tmod 64)))]
  (byB (!leI 65536 c) [u8 (IntKind.u8.wrap (W (224 + W (c.tdiv 4096)))), u8 (IntKind.u8.wrap (W (128 + (W (c.tdiv 64)).tmod 64))), u8 (IntKind.u8.wrap (W (128 + c.tmod 64)))]
    [u8 (IntKind.u8.wrap (W (240 + W (c.tdiv 262144)))), u8 (IntKind.u8.wrap (W (128 + (W (c.tdiv 4096)).tmod 64))), u8 (IntKind.u8.wrap (W (128 + (W (c.tdiv 64)).tmod 64))), u8 (IntKind.u8.wrap (W (128 + c.tmod 64)))]))
theorem t50 (H : HT) (c : Int) : bodyY Tryz.prog (GU H) .none .none 3 5 noLive Res.freshV? 5 Tryz.prog.funcs[50]? [.int .i64 c] St.empty =
    byB (!leI 128 c) (some (.lst [u8 (IntKind.u8.wrap c)] 1 true false)) (byB (!leI 2048 c) (some (.lst [u8 (IntKind.u8.wrap (W (192 + W (c.tdiv 64)))), u8 (IntKind.u8.wrap (W (128 + c.tmod 64)))] 2 true false))
  (byB (!leI 65536 c) (some (.lst [u8 (IntKind.u8.wrap (W (224 + W (c.tdiv 4096)))), u8 (IntKind.u8.wrap (W (128 + (W (c.tdiv 64)).tmod 64))), u8 (IntKind.u8.wrap (W (128 + c.tmod 64)))] 3 true false))
    (some (.lst [u8 (IntKind.u8.wrap (W (240 + W (c.tdiv 262144)))), u8 (IntKind.u8.wrap (W (128 + (W (c.tdiv 4096)).tmod 64))), u8 (IntKind.u8.wrap (W (128 + (W (c.tdiv 64)).tmod 64))), u8 (IntKind.u8.wrap (W (128 + c.tmod 64)))] 4 true false)))) := by kernel_rfl
theorem t28 (H : HT) (c : Int) : bodyY Tryz.prog (GU H) .none .none 3 5 noLive Res.freshV? 5 Tryz.prog.funcs[28]? [.int .i64 c] St.empty =
    byB (leI 0 c) (byB (leI c 1114111) (byB (leI 55296 c) (byB (leI c 57343) (some (.bool false)) (some (.bool true))) (some (.bool true))) (some (.bool false))) (some (.bool false)) := by kernel_rfl
theorem k50 (H : HT) : WOk Tryz.prog (GU H) 50 (F50v bsc lnc) := v_known (D := noLive) (m := 5) (loops := 3) (n := 5) hm hn (GU_plain H) (KnownOk.none _ _) (KnownKOk.none _) fun ar x h => by
  unfold F50v at h
  split at h
  case h_2 => cases h
  rename_i c
  simp only [Option.some.injEq, Prod.mk.injEq, true_and] at h
  subst h
  rw [t50]
  unfold bsc lnc
  cases !leI 128 c <;> cases !leI 2048 c <;> cases !leI 65536 c <;> rfl
theorem k28 (H : HT) : WOk Tryz.prog (GU H) 28 (F28v scal) := v_known (D := noLive) (m := 5) (loops := 3) (n := 5) hm hn (GU_plain H) (KnownOk.none _ _) (KnownKOk.none _) fun ar x h => by
  unfold F28v at h
  split at h
  case h_2 => cases h
  rename_i c
  simp only [Option.some.injEq, Prod.mk.injEq, true_and] at h
  subst h
  rw [t28]
  unfold scal
  cases leI 0 c <;> cases leI c 1114111 <;> cases leI 55296 c <;> cases leI c 57343 <;> rfl
theorem scal_okc {c : Nat} (h : scal (.ofNat c) = true) : okc c = true := by
  unfold scal at h
  rw [leI_t (b := Int.ofNat c) (Int.natCast_nonneg c)] at h
  unfold okc
  simp only [leI_iff, Int.ofNat_eq_natCast] at h
  by_cases h1 : c ≤ 1114111
  · rw [decide_eq_true (by omega)] at h
    rw [Nat.ble_eq_true_of_le h1, Bool.true_and]
    by_cases h2 : (55296 : Int) ≤ c
    · rw [decide_eq_true h2] at h
      by_cases h3 : (c : Int) ≤ 57343
      · rw [decide_eq_true h3] at h; cases h
      · have : 57343 < c := by omega
        simp [this]
    · have : c < 55296 := by omega
      simp [this]
  · rw [decide_eq_false (by omega)] at h; cases h
theorem lnc_enc {c : Nat} : lnc (.ofNat c) = (enc c).length := by
  unfold lnc enc
  simp only [leI_iff, Int.ofNat_eq_natCast]
  by_cases h1 : c < 128
  · rw [decide_eq_false (by omega), if_pos h1]; rfl
  rw [decide_eq_true (by omega), if_neg h1]
  by_cases h2 : c < 2048
  · rw [decide_eq_false (by omega), if_pos h2]; rfl
  rw [decide_eq_true (by omega), if_neg h2]
  by_cases h3 : c < 65536
  · rw [decide_eq_false (by omega), if_pos h3]; rfl
  rw [decide_eq_true (by omega), if_neg h3]; rfl
def Fits (l : List Nat) (i : Nat) (r : Option AV) : Prop := ∃ c k, r = two c k ∧ (k = 0 ∨ ∃ ch : Nat, c = .ofNat ch ∧ okc ch = true ∧ k = .ofNat (enc ch).length ∧ ∃ rest, l.drop i = enc ch ++ rest)
section
variable {l : List Nat} {i : Nat}
theorem fits_zz : Fits l i zz := ⟨0, 0, rfl, .inl rfl⟩
theorem fits_by {u : Bool} {a b : Option AV} (h1 : u = true → Fits l i a) (h2 : u = false → Fits l i b) : Fits l i (byB u a b) := by
  cases u with
  | true => exact h1 rfl
  | false => exact h2 rfl
theorem fits_fin {v : Int} {c k : Nat} (e : v = .ofNat c) (h : okc c = true → (enc c).length = k → ∃ rest, l.drop i = enc c ++ rest) : Fits l i (fin scal lnc v (.ofNat k)) := by
  subst e
  unfold fin
  refine fits_by (fun h1 => fits_by (fun _ => fits_zz) fun h2 => ?_) fun _ => fits_zz
  have hk : (enc c).length = k := by
    rw [lnc_enc] at h2
    have : eqI (.ofNat (enc c).length) (.ofNat k) = true := by simpa using h2
    exact Nat.eq_of_beq_eq_true this
  exact ⟨_, _, rfl, .inr ⟨c, rfl, scal_okc h1, by rw [hk], h (scal_okc h1) hk⟩⟩
theorem bytes_get : ∀ (l : List Nat) (a : Nat), (bytesA l)[a * 1]? = (l[a]?).map fun b => u8 (.ofNat b)
  | l, a => by rw [Nat.mul_one, bytesA, List.getElem?_map]; rfl
theorem fits_rd {a : Nat} {z : Int} {k : Int → Option AV} (hz : z = .ofNat a) (hl : ∀ b ∈ l, b < 256) (ha : a < l.length) (h : ∀ b, l[a]? = some b → 128 ≤ b → b < 192 → Fits l i (k (.ofNat b))) : Fits l i (rd (bytesA l) l.length z k) := by
  subst hz
  obtain ⟨b, hb⟩ : ∃ b, l[a]? = some b := ⟨_, List.getElem?_eq_getElem ha⟩
  have hb2 : b < 256 := hl b (List.mem_of_getElem? hb)
  unfold rd
  show Fits l i (ifK (Nat.blt a l.length && nonNil (bytesA l)) _)
  have hn : nonNil (bytesA l) = true := by cases l with | nil => simp at ha
                                                        | cons => rfl
  rw [show Nat.blt a l.length = true from Nat.ble_eq_true_of_le ha, hn, bytes_get, hb]
  show Fits l i (byB (!leI 128 (W (.ofNat b))) zz (byB (leI 192 (W (.ofNat b))) zz (k (W (.ofNat b)))))
  rw [show W (.ofNat b) = .ofNat b from wI (by omega)]
  refine fits_by (fun _ => fits_zz) fun h1 => fits_by (fun _ => fits_zz) fun h2 => ?_
  have h1 : leI 128 (.ofNat b) = true := by simpa using h1
  rw [leI_iff] at h1 h2
  exact h b hb (by have := of_decide_eq_true h1; simp only [Int.ofNat_eq_natCast] at this; omega) (by have := of_decide_eq_false h2; simp only [Int.ofNat_eq_natCast] at this; omega)
theorem stp_ok {v b : Nat} (hv : v < 1000000) (h1 : 128 ≤ b) (h2 : b < 192) : stp (.ofNat v) (.ofNat b) = .ofNat (v * 64 + (b - 128)) := by
  unfold stp
  have e1 : W (Int.ofNat v * 64) = .ofNat (v * 64) := wI (n := v * 64) (by omega)
  have e2 : W (Int.ofNat (v * 64) + .ofNat b) = .ofNat (v * 64 + b) := wI (n := v * 64 + b) (by omega)
  rw [e1, e2]
  have e3 : Int.ofNat (v * 64 + b) - 128 = .ofNat (v * 64 + (b - 128)) := by simp only [Int.ofNat_eq_natCast]; omega
  rw [e3]
  exact wI (by omega)
theorem far_no {n i k : Nat} (hi : i + k < 1000000) (h : far n i (.ofNat k) = false) : i + k ≤ n := by
  unfold far at h
  rw [show W (Int.ofNat i + .ofNat k) = .ofNat (i + k) from wI (n := i + k) (by omega)] at h
  have h : leI (.ofNat (i + k)) (.ofNat n) = true := by simpa using h
  rw [leI_iff] at h
  have := of_decide_eq_true h
  simp only [Int.ofNat_eq_natCast] at this; omega
theorem sub_ok {b k : Nat} (h : k ≤ b) (hb : b < 256) : W (Int.ofNat b - .ofNat k) = .ofNat (b - k) := by
  have e : Int.ofNat b - Int.ofNat k = .ofNat (b - k) := by simp only [Int.ofNat_eq_natCast]; omega
  rw [e]; exact wI (by omega)
theorem drop1 {l : List Nat} {i b : Nat} (h : l[i]? = some b) : l.drop i = b :: l.drop (i + 1) := by
  obtain ⟨hlt, rfl⟩ := List.getElem?_eq_some_iff.1 h
  exact List.drop_eq_getElem_cons hlt
theorem one_ok (hl : ∀ b ∈ l, b < 256) (hlen : l.length ≤ 100000) (hi : i < l.length) : Fits l i (oneT scal lnc (bytesA l) l.length i) := by
  obtain ⟨b0, hb⟩ : ∃ b, l[i]? = some b := ⟨_, List.getElem?_eq_getElem hi⟩
  have hb0 : b0 < 256 := hl b0 (List.mem_of_getElem? hb)
  have hn : nonNil (bytesA l) = true := by cases l with | nil => simp at hi
                                                        | cons => rfl
  unfold oneT
  rw [show Nat.blt i l.length = true from Nat.ble_eq_true_of_le hi, hn, bytes_get, hb]
  show Fits l i (D4 scal lnc (bytesA l) l.length i (W (.ofNat b0)))
  rw [show W (.ofNat b0) = .ofNat b0 from wI (by omega)]
  have geN : ∀ {k : Nat}, leI (.ofNat k) (.ofNat b0) = true → k ≤ b0 := fun {k} h => Nat.le_of_ble_eq_true h
  have ltN : ∀ {k : Nat}, leI (.ofNat k) (.ofNat b0) = false → b0 < k := fun {k} h => by
    rw [leI_iff] at h; have := of_decide_eq_false h; simp only [Int.ofNat_eq_natCast] at this; omega
  have ltN' : ∀ {k : Nat}, (!leI (.ofNat k) (.ofNat b0)) = true → b0 < k := fun {k} h => ltN (by simpa using h)
  have i1 : W (Int.ofNat i + 1) = .ofNat (i + 1) := wI (n := i + 1) (by omega)
  have i2 : W (Int.ofNat i + W (1 + 1)) = .ofNat (i + 2) := wI (n := i + 2) (by omega)
  have i3 : W (Int.ofNat i + W (W (1 + 1) + 1)) = .ofNat (i + 3) := wI (n := i + 3) (by omega)
  have d1 : Fits l i (D1 scal lnc l.length i (.ofNat b0)) := by
    unfold D1
    refine fits_by (fun _ => fits_zz) fun h => ?_
    have h := ltN (k := 128) h
    unfold T1
    refine fits_by (fun _ => fits_zz) fun _ => fits_fin (k := 1) rfl fun _ _ => ⟨l.drop (i + 1), ?_⟩
    rw [drop1 hb]; unfold enc; rw [if_pos h]; rfl
  have d2 : Fits l i (D2 scal lnc (bytesA l) l.length i (.ofNat b0)) := by
    unfold D2
    refine fits_by (fun h => fits_by (fun h2 => ?_) fun _ => d1) fun _ => d1
    have h := geN (k := 192) h
    have h2 := ltN' (k := 224) h2
    unfold T2
    refine fits_by (fun _ => fits_zz) fun hf => ?_
    have hf := far_no (k := 2) (by omega) hf
    refine fits_rd i1 hl (by omega) fun x hx x1 x2 => ?_
    rw [show W (Int.ofNat b0 - 192) = .ofNat (b0 - 192) from sub_ok (k := 192) h hb0]
    refine fits_fin (k := 2) (stp_ok (by omega) x1 x2) fun ho hk => ⟨l.drop (i + 2), ?_⟩
    rw [drop1 hb, drop1 hx]
    unfold enc at hk ⊢
    by_cases q1 : (b0 - 192) * 64 + (x - 128) < 128
    · rw [if_pos q1] at hk; simp at hk
    rw [if_neg q1] at hk ⊢
    by_cases q2 : (b0 - 192) * 64 + (x - 128) < 2048
    · rw [if_pos q2, show 192 + ((b0 - 192) * 64 + (x - 128)) / 64 = b0 by omega, show 128 + ((b0 - 192) * 64 + (x - 128)) % 64 = x by omega]; rfl
    · omega
  have d3 : Fits l i (D3 scal lnc (bytesA l) l.length i (.ofNat b0)) := by
    unfold D3
    refine fits_by (fun h => fits_by (fun h2 => ?_) fun _ => d2) fun _ => d2
    have h := geN (k := 224) h
    have h2 := ltN' (k := 240) h2
    unfold T3
    refine fits_by (fun _ => fits_zz) fun hf => ?_
    have hf := far_no (k := 3) (by omega) hf
    refine fits_rd i1 hl (by omega) fun x hx x1 x2 => fits_rd i2 hl (by omega) fun y hy y1 y2 => ?_
    rw [show W (Int.ofNat b0 - 224) = .ofNat (b0 - 224) from sub_ok (k := 224) h hb0, stp_ok (by omega) x1 x2]
    refine fits_fin (k := 3) (stp_ok (by omega) y1 y2) fun ho hk => ⟨l.drop (i + 3), ?_⟩
    rw [drop1 hb, drop1 hx, drop1 hy]
    generalize hc : ((b0 - 224) * 64 + (x - 128)) * 64 + (y - 128) = c at *
    unfold enc at hk ⊢
    by_cases q1 : c < 128
    · rw [if_pos q1] at hk; simp at hk
    rw [if_neg q1] at hk ⊢
    by_cases q2 : c < 2048
    · rw [if_pos q2] at hk; simp at hk
    rw [if_neg q2] at hk ⊢
    by_cases q3 : c < 65536
    · rw [if_pos q3, show 224 + c / 4096 = b0 by omega, show 128 + c / 64 % 64 = x by omega, show 128 + c % 64 = y by omega]; rfl
    · omega
  unfold D4
  refine fits_by (fun h => fits_by (fun h2 => ?_) fun _ => d3) fun _ => d3
  have h := geN (k := 240) h
  have h2 := ltN' (k := 248) h2
  unfold T4
  refine fits_by (fun _ => fits_zz) fun hf => ?_
  have hf := far_no (k := 4) (by omega) hf
  refine fits_rd i1 hl (by omega) fun x hx x1 x2 => fits_rd i2 hl (by omega) fun y hy y1 y2 => fits_rd i3 hl (by omega) fun z hz z1 z2 => ?_
  rw [show W (Int.ofNat b0 - 240) = .ofNat (b0 - 240) from sub_ok (k := 240) h hb0, stp_ok (by omega) x1 x2, stp_ok (by omega) y1 y2]
  refine fits_fin (k := 4) (stp_ok (by omega) z1 z2) fun ho hk => ⟨l.drop (i + 4), ?_⟩
  rw [drop1 hb, drop1 hx, drop1 hy, drop1 hz]
  generalize hc : (((b0 - 240) * 64 + (x - 128)) * 64 + (y - 128)) * 64 + (z - 128) = c at *
  unfold enc at hk ⊢
  by_cases q1 : c < 128
  · rw [if_pos q1] at hk; simp at hk
  rw [if_neg q1] at hk ⊢
  by_cases q2 : c < 2048
  · rw [if_pos q2] at hk; simp at hk
  rw [if_neg q2] at hk ⊢
  by_cases q3 : c < 65536
  · rw [if_pos q3] at hk; simp at hk
  rw [if_neg q3, show 240 + c / 262144 = b0 by omega, show 128 + c / 4096 % 64 = x by omega, show 128 + c / 64 % 64 = y by omega, show 128 + c % 64 = z by omega]; rfl
end
end Go.Am.Txt
end
section
namespace Go.Am.Txt
open Go Go.Am Go.Proofs Go.Am.Sto
section
variable (g : List AV → Nat → Int → Bool) (c k : List AV → Nat → Int → Int)
def F29v : List AV → Option (Bool × AV)
  | [.lst cs n _ _, .int .i64 z] => some (g cs n z, .tup [.int .i64 (c cs n z), .int .i64 (k cs n z)])
  | _ => none
def D15 : Live := fun i => match i with | 0 => .pack [0, 4, 5] | _ => .all
def X15 : Known := Known.none.add 29 (wX (F29v g c k))
def Y15 {β : Type} : KnownK β := KnownK.none.add 29 (wK (F29v g c k))
def b15 (H : HT) (P : Program) (cs : List AV) (n : Nat) (t nl : Bool) : Option AV := bodyY P (GU H) (X15 g c k) (Y15 g c k) 3 5 D15 Res.freshV? 2000 P.funcs[15]? [.lst cs n t nl] St.empty
def L15 (H : HT) (P : Program) (rounds : Nat) : T → St → Option AV := runLoop P (GU H) (X15 g c k) (Y15 g c k) 3 5 D15 Res.freshV? 2000 15 (.pack [0, 4, 5]) 0 rounds
def t15 (l out : AV) (i : Int) : T := tOf 29 [(0, l), (4, out), (5, .int .i64 i)]
def st1 (ty : Nat) (C : List AV) : St := ⟨1, Tr.nil.set 0 (.row (rowB 0 ty C))⟩
def newest (x n : Nat) : Bool := (bif Nat.ble (1 + x) (1 + 0 + n) then 0 else 0 + 1).beq (bif Nat.ble (1 + x) (1 + 0 + n) then 0 else 0 + 1)
variable (H : HT) (cs : List AV) (n i j M : Nat) (t nl : Bool) (C : List AV)
abbrev none15 (i : Nat) : Option AV := some (.tup [mt, .int .i64 (.ofNat i)])
theorem start15 : b15 g c k H Tryz.prog cs n t nl = L15 g c k H Tryz.prog 2000 (t15 (.lst cs n t nl) mt 0) St.empty := by kernel_rfl
theorem step15a : L15 g c k H Tryz.prog (M + 1) (t15 (.lst cs n t nl) mt (.ofNat i)) St.empty = byB (!leI (.ofNat n) (.ofNat i))
    (ifK (AV.plains [.lst cs n t nl, .int .i64 (.ofNat i)]) (ifK (g cs n (.ofNat i)) (byB (eqI (k cs n (.ofNat i)) 0) (none15 i)
      (ifK (AV.under 0 (.lst cs n t nl)) (L15 g c k H Tryz.prog M (t15 (.lst cs n t nl) (.sl 0 0 1 1 false) (W (.ofNat i + k cs n (.ofNat i)))) (st1 3 [.int .i64 (c cs n (.ofNat i))]))))))
    (some (.tup [mt, .int .i64 (-1)])) := by kernel_rfl
theorem step15b : L15 g c k H Tryz.prog (M + 1) (t15 (.lst cs n t nl) (.sl 0 0 (j + 1) 1 false) (.ofNat i)) (st1 3 C) = byB (!leI (.ofNat n) (.ofNat i))
    (ifK (AV.plains [.lst cs n t nl, .int .i64 (.ofNat i)]) (ifK (g cs n (.ofNat i)) (byB (eqI (k cs n (.ofNat i)) 0) (none15 i)
      (ifK (Nat.ble (j + 1 + 1) 1073741824) (optK (fun old => ifK (AV.under 0 (.lst cs n t nl)) (ifK (newest C.length ((j + 1) * 1)) (optK (fun v => ifK (nonNil v && AV.plains v)
        (L15 g c k H Tryz.prog M (t15 (.lst cs n t nl) (.sl 0 0 (j + 1 + 1) 1 false) (W (.ofNat i + k cs n (.ofNat i)))) (st1 3 v))) (cutN ((j + 1 + 1) * 1) 0 (old ++ [.int .i64 (c cs n (.ofNat i))])))))
        (cutN ((j + 1) * 1) 0 C))))))
    (optK (fun v => ifK (Nat.blt 0 (j + 1) && AV.flats v) (some (.tup [.lst v (j + 1) false false, .int .i64 (-1)]))) (cutN ((j + 1) * 1) 0 C)) := by kernel_rfl
end
end Go.Am.Txt
end
