import Derived.Test.YtlibahklbbachaaGreatDoorTx17
set_option autoImplicit false
set_option maxRecDepth 100000
set_option linter.unusedSimpArgs false
set_option linter.unusedVariables false
namespace Go.Am.Txt
open Go Go.Am Go.Proofs Go.Am.Sto
theorem w8n (x : Nat) : IntKind.u8.wrap (.ofNat x) = .ofNat (x % 256) := by
  have e : IntKind.u8.wrap (.ofNat x) = Int.ofNat x % 256 := by
    unfold IntKind.wrap
    simp [IntKind.signed, IntKind.bits]
  rw [e]; rfl
theorem w32n {x : Nat} (h : x < 4294967296) : IntKind.u32.wrap (.ofNat x) = .ofNat x := by
  have e : IntKind.u32.wrap (.ofNat x) = Int.ofNat x % 4294967296 := by
    unfold IntKind.wrap
    simp [IntKind.signed, IntKind.bits]
  rw [e]; simp only [Int.ofNat_eq_natCast]; omega
theorem shr_ok (x k : Nat) (hk : k ≤ 32) : shr (.ofNat x) k = .ofNat (x / 2 ^ k) := by
  unfold shr
  rw [Nat.min_eq_left hk, Int.fdiv_eq_ediv_of_nonneg _ (Int.le_of_lt (Int.pow_pos (by omega)))]
  have e : (2 : Int) ^ k = Int.ofNat (2 ^ k) := by simp
  rw [e]; rfl
theorem and63 : ∀ k, k < 256 → and8 (.ofNat k) 63 = .ofNat (k % 64) := by decide +kernel
theorem or128 : ∀ k, k < 64 → or8 128 (.ofNat k) = .ofNat (128 + k) := by decide +kernel
theorem or192 : ∀ k, k < 32 → or8 192 (.ofNat k) = .ofNat (192 + k) := by decide +kernel
theorem or224 : ∀ k, k < 16 → or8 224 (.ofNat k) = .ofNat (224 + k) := by decide +kernel
theorem or240 : ∀ k, k < 8 → or8 240 (.ofNat k) = .ofNat (240 + k) := by decide +kernel
theorem part_ok (x : Nat) : part (.ofNat x) = u8 (.ofNat (128 + x % 64)) := by
  unfold part
  rw [w8n, and63 _ (by omega), show x % 256 % 64 = x % 64 by omega, or128 _ (by omega)]
theorem encT_ok {β : Type} {c : Nat} (h : okc c = true) (put : List AV → Nat → Option β) : encT (.ofNat c) put = put (bytesA (enc c)) (enc c).length := by
  have hle := okc_le h
  have hor := okc_or h
  have lt : ∀ {k : Nat}, c ≤ k → leI (.ofNat c) (.ofNat k) = true := fun {k} h => Nat.ble_eq_true_of_le h
  have gt : ∀ {k : Nat}, k < c → leI (.ofNat c) (.ofNat k) = false := fun {k} h => leI_f (by simp only [Int.ofNat_eq_natCast]; omega)
  unfold encT
  simp only
  rw [wI32n (by omega), w32n (by omega), part_ok, shr_ok _ 6 (by omega), shr_ok _ 12 (by omega), shr_ok _ 18 (by omega), part_ok, part_ok, w8n, w8n, w8n, w8n]
  unfold enc
  by_cases h1 : c < 128
  · rw [show leI (.ofNat c) 127 = true from lt (k := 127) (by omega), if_pos h1, show c % 256 = c by omega]; rfl
  rw [show leI (.ofNat c) 127 = false from gt (k := 127) (by omega), if_neg h1]
  by_cases h2 : c < 2048
  · rw [show leI (.ofNat c) 2047 = true from lt (k := 2047) (by omega), if_pos h2, show c / 2 ^ 6 % 256 = c / 64 by omega, or192 _ (by omega)]; rfl
  rw [show leI (.ofNat c) 2047 = false from gt (k := 2047) (by omega), if_neg h2]
  by_cases h3 : c < 65536
  · rw [if_pos h3, show c / 2 ^ 12 % 256 = c / 4096 by omega, or224 _ (by omega), show c / 2 ^ 6 = c / 64 by omega, show leI (.ofNat c) 65535 = true from lt (k := 65535) (by omega)]
    rcases hor with h4 | h4
    · rw [show leI 55296 (.ofNat c) = false from leI_f (by simp only [Int.ofNat_eq_natCast]; omega)]; rfl
    · rw [show leI 55296 (.ofNat c) = true from leI_t (by simp only [Int.ofNat_eq_natCast]; omega), show leI (.ofNat c) 57343 = false from gt (k := 57343) h4]; rfl
  · rw [if_neg h3, show c / 2 ^ 18 % 256 = c / 262144 by omega, or240 _ (by omega), show c / 2 ^ 6 = c / 64 by omega, show c / 2 ^ 12 = c / 4096 by omega, show leI (.ofNat c) 65535 = false from gt (k := 65535) (by omega),
      show leI 55296 (.ofNat c) = true from leI_t (by simp only [Int.ofNat_eq_natCast]; omega), show leI (.ofNat c) 57343 = false from gt (k := 57343) (by omega), show leI (.ofNat c) 1114111 = true from lt (k := 1114111) hle]; rfl
def outB (bs : List Nat) : AV := match bs with | [] => mt | _ :: r => .sl 0 0 (r.length + 1) 1 false
def stB (bs : List Nat) : St := match bs with | [] => St.empty | b :: r => st1 5 (bytesA (b :: r))
theorem bytesA_len (l : List Nat) : (bytesA l).length = l.length := by simp [bytesA]
theorem bytesA_flats : ∀ l : List Nat, AV.flats (bytesA l) = true
  | [] => rfl
  | _ :: l => bytesA_flats l
theorem bytesA_ne {l : List Nat} (h : l ≠ []) : nonNil (bytesA l) = true := by
  cases l with
  | nil => exact absurd rfl h
  | cons => rfl
theorem okc_scal {c : Nat} (h : okc c = true) : scal (.ofNat c) = true := by
  have hle := okc_le h
  unfold scal
  rw [leI_t (b := Int.ofNat c) (Int.natCast_nonneg c), show leI (.ofNat c) 1114111 = true from Nat.ble_eq_true_of_le hle]
  rcases okc_or h with h1 | h1
  · rw [show leI 55296 (.ofNat c) = false from leI_f (by simp only [Int.ofNat_eq_natCast]; omega)]
  · rw [show leI 55296 (.ofNat c) = true from leI_t (by simp only [Int.ofNat_eq_natCast]; omega), show leI (.ofNat c) 57343 = false from leI_f (by simp only [Int.ofNat_eq_natCast]; omega)]
theorem outB_app {bs : List Nat} {c : Nat} : outB (bs ++ enc c) = .sl 0 0 (bs.length + (enc c).length) 1 false := by
  have h : bs ++ enc c ≠ [] := by simp [enc_ne]
  have e : (bs ++ enc c).length = bs.length + (enc c).length := List.length_append
  rw [← e]
  cases hb : bs ++ enc c with
  | nil => exact absurd hb h
  | cons b r => rfl
theorem stB_app {bs : List Nat} {c : Nat} : stB (bs ++ enc c) = st1 5 (bytesA (bs ++ enc c)) := by
  cases hb : bs ++ enc c with
  | nil => exact absurd hb (by simp [enc_ne])
  | cons b r => rfl
theorem ints_get (l : List Nat) (i : Nat) : (intsN l)[i * 1]? = (l[i]?).map fun c => AV.int .i64 (.ofNat c) := by rw [Nat.mul_one, intsN, List.getElem?_map]
/-! ## Contract -/
theorem t42 (H : HT) (c : Int) : bodyY Tryz.prog (GU H) .none .none 3 5 noLive Res.freshV? 5 Tryz.prog.funcs[42]? [.int .i64 c] St.empty = byB (leI 0 c) (byB (leI c 1114111) (vr (IntKind.i32.wrap c)) no) no := by kernel_rfl
theorem k42 (H : HT) : WOk Tryz.prog (GU H) 42 (F28v scal) := v_known (D := noLive) (m := 5) (loops := 3) (n := 5) hm hn (GU_plain H) (KnownOk.none _ _) (KnownKOk.none _) fun ar x h => by
  unfold F28v at h
  split at h
  case h_2 => cases h
  rename_i c
  simp only [Option.some.injEq, Prod.mk.injEq, true_and] at h
  subst h
  rw [t42]
  unfold scal
  cases h0 : leI 0 c with
  | false => rfl
  | true =>
    cases h1 : leI c 1114111 with
    | false => rfl
    | true =>
      rw [leI_iff] at h0 h1
      exact vr_eq (of_decide_eq_true h0) (of_decide_eq_true h1)
def natsOf : List AV → Option (List Nat)
  | [] => some []
  | .int .i64 (.ofNat n) :: l => match natsOf l with | some q => some (n :: q) | none => none
  | _ => none
theorem natsOf_ints : ∀ l : List Nat, natsOf (intsN l) = some l
  | [] => rfl
  | c :: l => by
    show (match natsOf (intsN l) with | some q => some (c :: q) | none => none) = _
    rw [natsOf_ints l]
theorem natsOf_is : ∀ {cs : List AV} {l : List Nat}, natsOf cs = some l → cs = intsN l
  | [], l, h => by cases h; rfl
  | .int .i64 (.ofNat n) :: cs, l, h => by
    unfold natsOf at h
    cases hq : natsOf cs with
    | none => rw [hq] at h; cases h
    | some q => rw [hq] at h; cases h; rw [natsOf_is hq]; rfl
section
variable (g : List AV → Nat → Bool) (bs : List AV → List AV) (ln : List AV → Nat) (e : List AV → Bool)
end
def nats (cs : List AV) : List Nat := match natsOf cs with | some l => l | none => []
def isChs (cs : List AV) (n : Nat) : Bool := (natsOf cs).isSome && (n.beq (nats cs).length && (Nat.blt n 5000 && (nats cs).all okc))
def bs144 (cs : List AV) : List AV := bytesA ((nats cs).flatMap enc)
def ln144 (cs : List AV) : Nat := ((nats cs).flatMap enc).length
def em144 (cs : List AV) : Bool := ((nats cs).flatMap enc).isEmpty
theorem chs_of {l : List Nat} (h : ∀ c ∈ l, okc c = true) (hl : l.length < 5000) : isChs (intsN l) l.length = true ∧ nats (intsN l) = l := by
  have hn : nats (intsN l) = l := by unfold nats; rw [natsOf_ints]
  refine ⟨?_, hn⟩
  unfold isChs
  rw [natsOf_ints, hn]
  simp only [Option.isSome_some, Bool.true_and, Bool.and_eq_true]
  exact ⟨Nat.beq_refl _, Nat.ble_eq_true_of_le hl, List.all_eq_true.2 h⟩
theorem chs_is {cs : List AV} {n : Nat} (h : isChs cs n = true) : (∀ c ∈ nats cs, okc c = true) ∧ cs = intsN (nats cs) ∧ n = (nats cs).length ∧ n < 5000 := by
  unfold isChs at h
  simp only [Bool.and_eq_true] at h
  obtain ⟨h1, h2, h3, h4⟩ := h
  cases hb : natsOf cs with
  | none => rw [hb] at h1; cases h1
  | some l =>
    have hn : nats cs = l := by unfold nats; rw [hb]
    rw [hn] at h2 h4 ⊢
    exact ⟨List.all_eq_true.1 h4, natsOf_is hb, Nat.eq_of_beq_eq_true h2, by simpa using h3⟩
end Go.Am.Txt
