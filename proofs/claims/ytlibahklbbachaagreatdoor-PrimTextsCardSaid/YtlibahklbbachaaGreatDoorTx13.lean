import Derived.Test.YtlibahklbbachaaGreatDoorTx11
import Derived.Test.YtlibahklbbachaaGreatDoorTx12
set_option autoImplicit false
set_option maxRecDepth 100000
set_option linter.unusedSimpArgs false
set_option linter.unusedVariables false
section
namespace Go.Am.Sto
open Go Go.Am Go.Proofs
def pureK {β : Type} (F : List AV → Option AV) (ar : List AV) (s : St) (kr : Res → Option β) : Option β := kr (pureX F ar s)
theorem addH' {β : Type} {X : Known} {Y : KnownK β} (hY : KnownKOk X Y) (f : FuncId) {h : List AV → St → Res} {hk : List AV → St → (Res → Option β) → Option β}
    (hh : ∀ args s (kr kr' : Res → Option β), (∀ r, Le (kr r) (kr' r)) → Le (hk args s kr) (kr' (h args s))) : KnownKOk (X.add f h) (Y.add f hk) := by
  intro g q hq
  unfold KnownK.add at hq
  rcases Bool.eq_false_or_eq_true (Nat.beq g f) with hb | hb
  · rw [cond_of_true hb] at hq
    cases hq
    exact ⟨h, by unfold Known.add; rw [cond_of_true hb], hh⟩
  · rw [cond_of_false hb] at hq
    obtain ⟨h', h1, h2⟩ := hY g q hq
    exact ⟨h', by unfold Known.add; rw [cond_of_false hb]; exact h1, h2⟩
theorem addP {β : Type} {X : Known} {Y : KnownK β} (hY : KnownKOk X Y) (f : FuncId) (F : List AV → Option AV) : KnownKOk (X.add f (pureX F)) (Y.add f (pureK F)) := addH' hY f fun _ _ _ _ h => h _
end Go.Am.Sto
end
section
namespace Go.Am.Sto
open Go Go.Am Go.Proofs
def sndC (neg : Bool) (cs : List AV) (n : Nat) (nl : Bool) : Bool := sndN neg cs n && (bif nonNil cs then !nl else true)
def inR (n : Int) : Bool := leI 0 n && leI n 999999999
section
variable (it : Int → List Nat) (neg tt : Bool) (a b : Int)
end
end Go.Am.Sto
end
section
namespace Go.Am.Sto
open Go Go.Am Go.Proofs
theorem nDigits_le : ∀ (k u : Nat), u < 10 ^ (k + 1) → Lib.nDigits u ≤ k + 1
  | 0, u, h => by rw [Lib.nDigits_small (by simpa using h)]; omega
  | k + 1, u, h => by
    by_cases h1 : u < 10
    · rw [Lib.nDigits_small h1]; omega
    · rw [Lib.nDigits_big h1]
      have := nDigits_le k (u / 10) (by rw [Nat.pow_succ] at h; omega)
      omega
def isDig (c : UInt8) : Prop := 48 ≤ c.toNat ∧ c.toNat ≤ 57
theorem dig_of {n : Nat} (h : n < 10) : (UInt8.ofNat (48 + n)).toNat = 48 + n := by simp; omega
theorem decDigits_dig : ∀ (u : Nat), ∀ c ∈ Lib.decDigits u, isDig c := by
  intro u
  induction u using Nat.strongRecOn with
  | _ u ih =>
    intro c hc
    rw [Lib.decDigits] at hc
    split at hc
    · rename_i h
      simp only [List.mem_singleton] at hc
      subst hc
      unfold isDig
      rw [dig_of h]; omega
    · rename_i h
      rcases List.mem_append.1 hc with h1 | h1
      · exact ih (u / 10) (by omega) c h1
      · simp only [List.mem_singleton] at h1
        subst h1
        unfold isDig
        rw [dig_of (by omega)]; omega
theorem decDigits_ne (u : Nat) : Lib.decDigits u ≠ [] := by
  intro h
  have := Lib.decDigits_length u
  rw [h] at this
  have := Lib.nDigits_pos u
  simp at *; omega
theorem parse_dig {acc n : Nat} (r : List UInt8) (h : n < 10) (hb : acc * 10 + n < 1000000000000000000) : Lib.parseUint10 acc (UInt8.ofNat (48 + n) :: r) = Lib.parseUint10 (acc * 10 + n) r := by
  simp only [Lib.parseUint10, dig_of h]
  rw [if_pos (by omega), if_neg (by omega), if_neg (by omega), show 48 + n - 48 = n by omega]
theorem parse_dec : ∀ (u acc : Nat) (r : List UInt8), acc * 10 ^ Lib.nDigits u + u < 1000000000000000000 → Lib.parseUint10 acc (Lib.decDigits u ++ r) = Lib.parseUint10 (acc * 10 ^ Lib.nDigits u + u) r := by
  intro u
  induction u using Nat.strongRecOn with
  | _ u ih =>
    intro acc r hb
    by_cases h : u < 10
    · rw [Lib.decDigits_one h, Lib.nDigits_small h] at *
      simp only [Nat.pow_one] at *
      exact parse_dig r h hb
    · rw [Lib.nDigits_big h] at hb ⊢
      rw [Lib.decDigits, dif_neg h, List.append_assoc]
      rw [Nat.pow_succ, ← Nat.mul_assoc] at hb ⊢
      generalize hA : acc * 10 ^ Lib.nDigits (u / 10) = A at hb ⊢
      have := ih (u / 10) (by omega) acc ([UInt8.ofNat (48 + u % 10)] ++ r) (by rw [hA]; omega)
      rw [this, hA]
      show Lib.parseUint10 (A + u / 10) (UInt8.ofNat (48 + u % 10) :: r) = _
      rw [parse_dig r (by omega) (by omega)]
      congr 1; omega
theorem parse_zeros : ∀ (k acc : Nat) (r : List UInt8), acc * 10 ^ k < 1000000000000000000 → Lib.parseUint10 acc (List.replicate k 48 ++ r) = Lib.parseUint10 (acc * 10 ^ k) r
  | 0, acc, r, _ => by simp
  | k + 1, acc, r, hb => by
    have hp : acc * 10 ≤ acc * 10 ^ (k + 1) := Nat.mul_le_mul_left acc (by rw [Nat.pow_succ]; have := Nat.one_le_pow k 10 (by decide); omega)
    have e : acc * 10 * 10 ^ k = acc * 10 ^ (k + 1) := by rw [Nat.pow_succ, Nat.mul_assoc, Nat.mul_comm 10]
    show Lib.parseUint10 acc (UInt8.ofNat (48 + 0) :: (List.replicate k 48 ++ r)) = _
    rw [parse_dig _ (by omega) (by omega), Nat.add_zero, parse_zeros k (acc * 10) r (by rw [e]; exact hb), e]
def dig2 (h l : Nat) : List UInt8 := Lib.decDigits h ++ List.replicate (9 - (Lib.decDigits l).length) 48 ++ Lib.decDigits l
theorem parse_dig2 {h l : Nat} (h1 : h < 1000000000) (h2 : l < 1000000000) : Lib.parseUint10 0 (dig2 h l) = .ok (h * 1000000000 + l) := by
  have hn : Lib.nDigits l ≤ 9 := nDigits_le 8 l (by simpa using h2)
  unfold dig2
  rw [List.append_assoc, parse_dec h 0 _ (by omega), Lib.decDigits_length]
  have e : h * 10 ^ (9 - Lib.nDigits l) * 10 ^ Lib.nDigits l = h * 1000000000 := by rw [Nat.mul_assoc, ← Nat.pow_add, show 9 - Lib.nDigits l + Lib.nDigits l = 9 by omega]
  have hle : h * 10 ^ (9 - Lib.nDigits l) ≤ h * 1000000000 := by rw [← e]; exact Nat.le_mul_of_pos_right _ (Nat.pow_pos (by decide))
  rw [Nat.zero_mul, Nat.zero_add, parse_zeros _ _ _ (by omega)]
  have := parse_dec l (h * 10 ^ (9 - Lib.nDigits l)) [] (by rw [e]; omega)
  rw [List.append_nil] at this
  rw [this, e]; rfl
theorem parse_dig1 {l : Nat} (h2 : l < 1000000000) : Lib.parseUint10 0 (Lib.decDigits l) = .ok l := by
  have := parse_dec l 0 [] (by omega)
  rw [List.append_nil] at this
  rw [this, Nat.zero_mul, Nat.zero_add]; rfl
theorem atoi_neg {l : List UInt8} {u : Nat} (h0 : l ≠ []) (h : Lib.parseUint10 0 l = .ok u) (hu : u < 9223372036854775808) : Lib.atoiAll (45 :: l) = .ok (-(u : Int)) := by
  unfold Lib.atoiAll Lib.parseMag
  simp [h0, h]
  omega
theorem atoi_pos {l : List UInt8} {u : Nat} (h0 : l ≠ []) (hd : ∀ c ∈ l, isDig c) (h : Lib.parseUint10 0 l = .ok u) (hu : u < 9223372036854775808) : Lib.atoiAll l = .ok (u : Int) := by
  cases l with
  | nil => exact absurd rfl h0
  | cons c r =>
    have hc := hd c (by simp)
    unfold isDig at hc
    unfold Lib.atoiAll Lib.parseMag
    have e1 : ¬ c.toNat = 43 := by omega
    have e2 : ¬ c.toNat = 45 := by omega
    have e3 : ¬ 9223372036854775808 ≤ u := by omega
    simp [e1, e2, h, e3]
end Go.Am.Sto
end
section
namespace Go.Am
open Go Go.Proofs
theorem read_knownY {P : Program} {G : Glob} (hm : P.follows .mixedOrders = true) (hn : NoNG P) (hp : GlobPlain G) {X : Known} (hX : KnownOk P G X) {Y : KnownK AV} (hY : KnownKOk X Y) {D : Live} {m loops n : Nat} {f : FuncId} {F : List AV → Option AV}
    (hF : ∀ ar x, F ar = some x → x.flat = true ∧ bodyY P G X Y loops n D Res.val? m P.funcs[f]? ar St.empty = some x) : ReadOk P G f F := by
  intro args s E w vs h hG ha
  unfold readX
  split
  · rename_i ar har
    split
    · rename_i x hx
      obtain ⟨h2, h3⟩ := hF ar x hx
      have h3 := bodyY_le hY h3
      have hz : ∀ b o v, E.stay w b o = some v → (E.look w).z b o = some v := fun _ _ _ e => e
      have this := bodyD_ok (D := D) hm hn (callN_ok hm hn hX loops n) m f ar St.empty (E.look w) w vs h.look (GlobOk.one h hp hG hz rfl) (convRL_ok h hz har ha)
      cases hb : bodyD P G (callN P G X loops n) D m P.funcs[f]? ar St.empty with
      | ret y s1 =>
        rw [hb] at h3 this
        simp only [Res.val?, Option.some.injEq] at h3
        subst h3
        rcases this with ⟨h4, h5⟩ | ⟨v', w', E', h4, h5, h6⟩
        · exact .inl ⟨h4, Calls.mono h5 fun e w' ⟨v', E', he, hs, hv⟩ => ⟨v', E, he, .looked h hs, hv.flat h2⟩⟩
        · exact .inr ⟨v', w', E, h4, .looked h h5, h6.flat h2⟩
      | _ => rw [hb] at h3; cases h3
    · trivial
  · trivial
end Go.Am
namespace Go.Am.Sto
open Go Go.Am Go.Proofs
/-! ## Text -/
def rngs : List AV → Bool
  | [] => true
  | .int .u32 a :: r => inR a && rngs r
  | _ => false
def gTxt (neg : Bool) (cs : List AV) (n : Nat) (nl : Bool) : Bool := sndC neg cs n nl && rngs cs
def sg (neg : Bool) : List Nat := bif neg then [45] else []
def txtA (neg : Bool) : List AV → List Nat
  | [] => [48]
  | [.int .u32 a] => sg neg ++ itoaN a
  | [.int .u32 a, .int .u32 b] => sg neg ++ itoaN b ++ List.replicate (9 - (itoaN a).length) 48 ++ itoaN a
  | _ => []
theorem inR_iff {a : Int} : inR a = true ↔ 0 ≤ a ∧ a ≤ 999999999 := by
  unfold inR
  rw [Bool.and_eq_true, leI_iff, leI_iff, decide_eq_true_iff, decide_eq_true_iff]
theorem itoaN_eq {a : Int} (h : 0 ≤ a) : itoaN a = (Lib.decDigits a.toNat).map (·.toNat) := by
  unfold itoaN Lib.itoa
  rw [if_neg (by omega)]
theorem itoaN_ne {a : Int} (h : inR a = true) : itoaN a ≠ [] := by
  rw [itoaN_eq (inR_iff.1 h).1]
  intro e
  exact decDigits_ne _ (List.map_eq_nil_iff.1 e)
theorem itoaN_len {a : Int} (h : inR a = true) : (itoaN a).length ≤ 9 := by
  rw [itoaN_eq (inR_iff.1 h).1, List.length_map, Lib.decDigits_length]
  exact nDigits_le 8 _ (by have := inR_iff.1 h; omega)
theorem itoaN_lt (a : Int) : ∀ c ∈ itoaN a, c < 256 := fun c hc => by
  obtain ⟨x, _, rfl⟩ := List.mem_map.1 hc
  exact x.toNat_lt
end Go.Am.Sto
end
section
namespace Go.Am.Sto
open Go Go.Am Go.Proofs
section
variable (g : Bool → List AV → Nat → Bool → Bool) (t : Bool → List AV → List Nat) (ok : List Nat → Bool) (v : List Nat → Int)
end
/-! ## What Small gives -/
def sgn (neg : Bool) (x : Int) : Int := bif neg then -x else x
def valA (neg : Bool) : List AV → Int
  | [.int .u32 a] => sgn neg a
  | [.int .u32 a, .int .u32 b] => sgn neg (b * 1000000000 + a)
  | _ => 0
theorem back_itoa {a : Int} (h : inR a = true) : (itoaN a).map UInt8.ofNat = Lib.decDigits a.toNat := by rw [itoaN_eq (inR_iff.1 h).1, bytes_back]
theorem back_dig2 {a b : Int} (ha : inR a = true) (hb : inR b = true) : (itoaN b ++ List.replicate (9 - (itoaN a).length) 48 ++ itoaN a).map UInt8.ofNat = dig2 b.toNat a.toNat := by
  have : (itoaN a).length = (Lib.decDigits a.toNat).length := by rw [itoaN_eq (inR_iff.1 ha).1, List.length_map]
  rw [List.map_append, List.map_append, back_itoa ha, back_itoa hb, List.map_replicate, this]
  rfl
theorem dig2_dig (h l : Nat) : ∀ c ∈ dig2 h l, isDig c := fun c hc => by
  unfold dig2 at hc
  rcases List.mem_append.1 hc with h1 | h1
  · rcases List.mem_append.1 h1 with h2 | h2
    · exact decDigits_dig _ c h2
    · have := (List.mem_replicate.1 h2).2
      subst this
      exact ⟨by decide, by decide⟩
  · exact decDigits_dig _ c h1
theorem dig2_ne (h l : Nat) : dig2 h l ≠ [] := by
  unfold dig2
  intro e
  rw [List.append_eq_nil_iff] at e
  exact decDigits_ne _ e.2
theorem atoiV_txt {neg nl : Bool} {cs : List AV} {n : Nat} (h : gTxt neg cs n nl = true) : atoiV (txtA neg cs) = some (valA neg cs) ∧ (txtA neg cs).length ≤ 100 := by
  unfold gTxt at h
  rw [Bool.and_eq_true] at h
  obtain ⟨h1, h2⟩ := h
  unfold sndC at h1
  rw [Bool.and_eq_true] at h1
  obtain ⟨h3, h4⟩ := h1
  unfold sndN at h3
  split at h3
  · exact ⟨rfl, by show 1 ≤ 100; omega⟩
  · rename_i a
    have ha : inR a = true := by simpa [rngs] using h2
    have hr := inR_iff.1 ha
    have hl := itoaN_len ha
    cases neg with
    | true =>
      refine ⟨?_, by show (45 :: itoaN a).length ≤ 100; simp only [List.length_cons]; omega⟩
      show (match Lib.atoiAll (UInt8.ofNat 45 :: (itoaN a).map UInt8.ofNat) with | .ok v => some v | _ => none) = _
      rw [back_itoa ha]
      have := atoi_neg (decDigits_ne a.toNat) (parse_dig1 (l := a.toNat) (by omega)) (by omega)
      rw [show UInt8.ofNat 45 = 45 from rfl, this]
      show some (-((a.toNat : Nat) : Int)) = some (-a)
      rw [Int.toNat_of_nonneg hr.1]
    | false =>
      refine ⟨?_, by show (itoaN a).length ≤ 100; omega⟩
      show (match Lib.atoiAll ((itoaN a).map UInt8.ofNat) with | .ok v => some v | _ => none) = _
      rw [back_itoa ha, atoi_pos (decDigits_ne a.toNat) (decDigits_dig _) (parse_dig1 (l := a.toNat) (by omega)) (by omega)]
      show some ((a.toNat : Nat) : Int) = some a
      rw [Int.toNat_of_nonneg hr.1]
  · rename_i a b
    have hab : inR a = true ∧ inR b = true := by simpa [rngs] using h2
    obtain ⟨ha, hb⟩ := hab
    have hra := inR_iff.1 ha
    have hrb := inR_iff.1 hb
    have hla := itoaN_len ha
    have hlb := itoaN_len hb
    have hp := parse_dig2 (h := b.toNat) (l := a.toNat) (by omega) (by omega)
    cases neg with
    | true =>
      refine ⟨?_, by show (45 :: (itoaN b ++ List.replicate (9 - (itoaN a).length) 48 ++ itoaN a)).length ≤ 100; simp only [List.length_cons, List.length_append, List.length_replicate]; omega⟩
      show (match Lib.atoiAll (UInt8.ofNat 45 :: (itoaN b ++ List.replicate (9 - (itoaN a).length) 48 ++ itoaN a).map UInt8.ofNat) with | .ok v => some v | _ => none) = _
      rw [back_dig2 ha hb, show UInt8.ofNat 45 = 45 from rfl, atoi_neg (dig2_ne _ _) hp (by omega)]
      show some (-((b.toNat * 1000000000 + a.toNat : Nat) : Int)) = some (-(b * 1000000000 + a))
      congr 2; omega
    | false =>
      refine ⟨?_, by show (itoaN b ++ List.replicate (9 - (itoaN a).length) 48 ++ itoaN a).length ≤ 100; simp only [List.length_append, List.length_replicate]; omega⟩
      show (match Lib.atoiAll ((itoaN b ++ List.replicate (9 - (itoaN a).length) 48 ++ itoaN a).map UInt8.ofNat) with | .ok v => some v | _ => none) = _
      rw [back_dig2 ha hb, atoi_pos (dig2_ne _ _) (dig2_dig _ _) hp (by omega)]
      show some ((b.toNat * 1000000000 + a.toNat : Nat) : Int) = some (b * 1000000000 + a)
      congr 1; omega
  · cases h3
theorem gTxt_1 (neg : Bool) (a : Int) : gTxt neg ([a].map (AV.int .u32)) [a].length [a].isEmpty = (((!eqI a 0 && !leI 1000000000 a) && true) && (inR a && true)) := rfl
theorem gTxt_2 (neg : Bool) (a b : Int) : gTxt neg ([a, b].map (AV.int .u32)) [a, b].length [a, b].isEmpty = (((!eqI b 0 && (!leI 1000000000 a && !leI 1000000000 b)) && true) && (inR a && (inR b && true))) := rfl
theorem valA_1 (neg : Bool) (a : Int) : valA neg ([a].map (AV.int .u32)) = sgn neg a := rfl
theorem valA_2 (neg : Bool) (a b : Int) : valA neg ([a, b].map (AV.int .u32)) = sgn neg (b * 1000000000 + a) := rfl
theorem eqI_ne : ∀ {a : Int}, 0 < a → eqI a 0 = false
  | .ofNat (k + 1), _ => rfl
  | .ofNat 0, h => absurd h (by decide)
  | .negSucc k, h => by omega
theorem sgn_of {z x : Int} (h : x = ((z.natAbs : Nat) : Int)) : sgn (decide (z < 0)) x = z := by
  subst h
  by_cases hz : z < 0
  · rw [decide_eq_true hz]
    show -((z.natAbs : Nat) : Int) = z
    omega
  · rw [decide_eq_false hz]
    show ((z.natAbs : Nat) : Int) = z
    omega
theorem limbs_ok {z : Int} (h : small z = true) : gTxt (decide (z < 0)) ((limbs z.natAbs).map (AV.int .u32)) (limbs z.natAbs).length (limbs z.natAbs).isEmpty = true ∧ valA (decide (z < 0)) ((limbs z.natAbs).map (AV.int .u32)) = z := by
  unfold small at h
  rw [Bool.and_eq_true, leI_iff, leI_iff, decide_eq_true_iff, decide_eq_true_iff] at h
  by_cases h0 : z.natAbs = 0
  · have : z = 0 := by omega
    subst this
    exact ⟨rfl, rfl⟩
  · by_cases h1 : z.natAbs < 1000000000
    · have hl : limbs z.natAbs = [((z.natAbs : Nat) : Int)] := by unfold limbs; rw [if_neg h0, if_pos h1]
      rw [hl, gTxt_1, valA_1]
      refine ⟨?_, sgn_of rfl⟩
      rw [eqI_ne (by omega), leI_f (show ((z.natAbs : Nat) : Int) < 1000000000 by omega), inR_iff.2 ⟨by omega, by omega⟩]; rfl
    · have hl : limbs z.natAbs = [((z.natAbs % 1000000000 : Nat) : Int), ((z.natAbs / 1000000000 : Nat) : Int)] := by unfold limbs; rw [if_neg h0, if_neg h1]
      rw [hl, gTxt_2, valA_2]
      refine ⟨?_, sgn_of (by omega)⟩
      rw [eqI_ne (by omega), leI_f (show ((z.natAbs % 1000000000 : Nat) : Int) < 1000000000 by omega), leI_f (show ((z.natAbs / 1000000000 : Nat) : Int) < 1000000000 by omega), inR_iff.2 ⟨by omega, by omega⟩, inR_iff.2 ⟨by omega, by omega⟩]; rfl
end Go.Am.Sto
end
