import Derived.Test.YtlibahklbbachaaGreatDoorRf15
set_option autoImplicit false
set_option maxRecDepth 100000
set_option linter.unusedSimpArgs false
set_option linter.unusedVariables false
section
namespace Go.Am.Sto
open Go Go.Am Go.Proofs
def cas9 {β : Type} (l : List Nat) (k : List Nat → Option β) : Option β := match l with
 | [] => none
 | a :: l => match l with
  | [] => k [a]
  | b :: l => match l with
   | [] => k [a, b]
   | c :: l => match l with
    | [] => k [a, b, c]
    | d :: l => match l with
     | [] => k [a, b, c, d]
     | e :: l => match l with
      | [] => k [a, b, c, d, e]
      | f :: l => match l with
       | [] => k [a, b, c, d, e, f]
       | g :: l => match l with
        | [] => k [a, b, c, d, e, f, g]
        | h :: l => match l with
         | [] => k [a, b, c, d, e, f, g, h]
         | i :: l => match l with
          | [] => k [a, b, c, d, e, f, g, h, i]
          | _ => none
theorem cas9_le {β : Type} (l : List Nat) (k : List Nat → Option β) : Le (cas9 l k) (k l) := by
 unfold cas9
 repeat' split
 all_goals first | exact .none _ | exact .refl _
def cas9' {β : Type} (l : List Nat) (k : List Nat → Option β) : Option β := match l with
 | [] => none
 | a :: l => match l with
  | [] => k [a]
  | b :: l => match l with
   | [] => k [a, b]
   | c :: l => match l with
    | [] => k [a, b, c]
    | d :: l => match l with
     | [] => k [a, b, c, d]
     | e :: l => match l with
      | [] => k [a, b, c, d, e]
      | f :: l => match l with
       | [] => k [a, b, c, d, e, f]
       | g :: l => match l with
        | [] => k [a, b, c, d, e, f, g]
        | h :: l => match l with
         | [] => k [a, b, c, d, e, f, g, h]
         | i :: l => match l with
          | [] => k [a, b, c, d, e, f, g, h, i]
          | _ => none
theorem cas9'_eq {β : Type} {k : List Nat → Option β} : ∀ {l : List Nat}, l ≠ [] → l.length ≤ 9 → cas9' l k = k l
 | [], h0, _ => absurd rfl h0
 | [_], _, _ => rfl
 | [_, _], _, _ => rfl
 | [_, _, _], _, _ => rfl
 | [_, _, _, _], _, _ => rfl
 | [_, _, _, _, _], _, _ => rfl
 | [_, _, _, _, _, _], _, _ => rfl
 | [_, _, _, _, _, _, _], _, _ => rfl
 | [_, _, _, _, _, _, _, _], _, _ => rfl
 | [_, _, _, _, _, _, _, _, _], _, _ => rfl
 | _ :: _ :: _ :: _ :: _ :: _ :: _ :: _ :: _ :: _ :: l, _, h => by simp only [List.length_cons] at h; omega
def sndC (neg : Bool) (cs : List AV) (n : Nat) (nl : Bool) : Bool := sndN neg cs n && (bif nonNil cs then !nl else true)
def snd35K {β : Type} (ar : List AV) (s : St) (kr : Res → Option β) : Option β := match ar with
 | [.agg [.bool neg, .lst cs n _ nl]] => ifK (sndC neg cs n nl) (kr (.ret (.bool true) s))
 | _ => none
def inR (n : Int) : Bool := leI 0 n && leI n 999999999
def itF (it : Int → List Nat) : List AV → Option AV
 | [.int .i64 n] => bif inR n then some (.str (it n)) else none
 | _ => none
def itK {β : Type} (it : Int → List Nat) (ar : List AV) (s : St) (kr : Res → Option β) : Option β := match ar with
 | [.int .i64 n] => ifK (inR n) (cas9 (it n) fun l => kr (.ret (.str l) s))
 | _ => none
def X60 (it : Int → List Nat) : Known := ((XN.add 35 (readX F35)).add 128 (pureX F128)).add 126 (pureX (itF it))
def Y60 {β : Type} (it : Int → List Nat) : KnownK β := ((KnownK.none.add 35 snd35K).add 128 (pureK F128)).add 126 (itK it)
def strR (l : List Nat) : Option AV := optK (fun r => some (.str r)) (bytesOf (bytesA l))
abbrev w64i (a : Int) : Int := IntKind.i64.wrap a
section
variable (it : Int → List Nat) (neg tt : Bool) (a b : Int)
theorem t60a (nl : Bool) : bodyY Tryz.prog G2 (X60 it) (Y60 it) 10 12 noLive Res.val? 10 Tryz.prog.funcs[60]? [.agg [.bool neg, .lst [] 0 tt nl]] St.empty = ifK (sndC neg [] 0 nl) (some (.str [48])) := by kernel_rfl
theorem t60b : bodyY Tryz.prog G2 (X60 it) (Y60 it) 10 12 noLive Res.val? 10 Tryz.prog.funcs[60]? [.agg [.bool neg, .lst [.int .u32 a] 1 tt false]] St.empty =
  ifK (sndC neg [.int .u32 a] 1 false) (byB neg (ifK (inR (w64i a)) (cas9' (it (w64i a)) fun l => strR ([45] ++ l))) (ifK (inR (w64i a)) (cas9' (it (w64i a)) fun l => strR l))) := by kernel_rfl
theorem t60c : bodyY Tryz.prog G2 (X60 it) (Y60 it) 10 12 noLive Res.val? 10 Tryz.prog.funcs[60]? [.agg [.bool neg, .lst [.int .u32 a, .int .u32 b] 2 tt false]] St.empty =
  ifK (sndC neg [.int .u32 a, .int .u32 b] 2 false) (byB neg (ifK (inR (w64i b)) (cas9' (it (w64i b)) fun h => ifK (inR (w64i a)) (cas9' (it (w64i a)) fun l => strR ([45] ++ h ++ List.replicate (9 - l.length) 48 ++ l))))
   (ifK (inR (w64i b)) (cas9' (it (w64i b)) fun h => ifK (inR (w64i a)) (cas9' (it (w64i a)) fun l => strR (h ++ List.replicate (9 - l.length) 48 ++ l))))) := by kernel_rfl
end
end Go.Am.Sto
end
section
namespace Go.Am.Sto
open Go Go.Am Go.Proofs
theorem bytesOf_ok : ∀ {l : List Nat}, (∀ c ∈ l, c < 256) → bytesOf (bytesA l) = some l
 | [], _ => rfl
 | c :: l, h => by
  have ih := bytesOf_ok (l := l) fun x hx => h x (by simp [hx])
  have hc := h c (by simp)
  show (bif Nat.blt c 256 then (match bytesOf (bytesA l) with | some q => some (c :: q) | none => none) else none) = _
  rw [ih, show Nat.blt c 256 = true by simpa using hc]; rfl
theorem strR_ok {l : List Nat} (h : ∀ c ∈ l, c < 256) : strR l = some (.str l) := by unfold strR; rw [bytesOf_ok h]; rfl
theorem nDigits_le : ∀ (k u : Nat), u < 10 ^ (k + 1) → Lib.nDigits u ≤ k + 1
 | 0, u, h => by rw [Lib.nDigits_small (by simpa using h)]; omega
 | k + 1, u, h => by
  by_cases h1 : u < 10
  ·rw [Lib.nDigits_small h1]; omega
  ·rw [Lib.nDigits_big h1]
   have := nDigits_le k (u / 10) (by rw [Nat.pow_succ] at h; omega)
   omega
def isDig (c : UInt8) : Prop := 48 ≤ c.toNat ∧ c.toNat ≤ 57
theorem dig_of {n : Nat} (h : n < 10) : (UInt8.ofNat (48 + n)).toNat = 48 + n := by simp; omega
theorem decDigits_dig : ∀ (u : Nat), ∀ c ∈ Lib.decDigits u, isDig c := by
 intro u
 induction u using Nat.strongRecOn with
 | _ u ih =>
  intro c hc
  rw [Lib.decDigits] at hc
  split at hc
  ·rename_i h
   simp only [List.mem_singleton] at hc
   subst hc
   unfold isDig
   rw [dig_of h]; omega
  ·rename_i h
   rcases List.mem_append.1 hc with h1 | h1
   ·exact ih (u / 10) (by omega) c h1
   ·simp only [List.mem_singleton] at h1
    subst h1
    unfold isDig
    rw [dig_of (by omega)]; omega
theorem decDigits_ne (u : Nat) : Lib.decDigits u ≠ [] := by
 intro h
 have := Lib.decDigits_length u
 rw [h] at this
 have := Lib.nDigits_pos u
 simp at *; omega
theorem parse_dig {acc n : Nat} (r : List UInt8) (h : n < 10) (hb : acc * 10 + n < 1000000000000000000) : Lib.parseUint10 acc (UInt8.ofNat (48 + n) :: r) = Lib.parseUint10 (acc * 10 + n) r := by
 simp only [Lib.parseUint10, dig_of h]
 rw [if_pos (by omega), if_neg (by omega), if_neg (by omega), show 48 + n - 48 = n by omega]
theorem parse_dec : ∀ (u acc : Nat) (r : List UInt8), acc * 10 ^ Lib.nDigits u + u < 1000000000000000000 → Lib.parseUint10 acc (Lib.decDigits u ++ r) = Lib.parseUint10 (acc * 10 ^ Lib.nDigits u + u) r := by
 intro u
 induction u using Nat.strongRecOn with
 | _ u ih =>
  intro acc r hb
  by_cases h : u < 10
  ·rw [Lib.decDigits_one h, Lib.nDigits_small h] at *
   simp only [Nat.pow_one] at *
   exact parse_dig r h hb
  ·rw [Lib.nDigits_big h] at hb ⊢
   rw [Lib.decDigits, dif_neg h, List.append_assoc]
   rw [Nat.pow_succ, ← Nat.mul_assoc] at hb ⊢
   generalize hA : acc * 10 ^ Lib.nDigits (u / 10) = A at hb ⊢
   have := ih (u / 10) (by omega) acc ([UInt8.ofNat (48 + u % 10)] ++ r) (by rw [hA]; omega)
   rw [this, hA]
   show Lib.parseUint10 (A + u / 10) (UInt8.ofNat (48 + u % 10) :: r) = _
   rw [parse_dig r (by omega) (by omega)]
   congr 1; omega
theorem parse_zeros : ∀ (k acc : Nat) (r : List UInt8), acc * 10 ^ k < 1000000000000000000 → Lib.parseUint10 acc (List.replicate k 48 ++ r) = Lib.parseUint10 (acc * 10 ^ k) r
 | 0, acc, r, _ => by simp
 | k + 1, acc, r, hb => by
  have hp : acc * 10 ≤ acc * 10 ^ (k + 1) := Nat.mul_le_mul_left acc (by rw [Nat.pow_succ]; have := Nat.one_le_pow k 10 (by decide); omega)
  have e : acc * 10 * 10 ^ k = acc * 10 ^ (k + 1) := by rw [Nat.pow_succ, Nat.mul_assoc, Nat.mul_comm 10]
  show Lib.parseUint10 acc (UInt8.ofNat (48 + 0) :: (List.replicate k 48 ++ r)) = _
  rw [parse_dig _ (by omega) (by omega), Nat.add_zero, parse_zeros k (acc * 10) r (by rw [e]; exact hb), e]
def dig2 (h l : Nat) : List UInt8 := Lib.decDigits h ++ List.replicate (9 - (Lib.decDigits l).length) 48 ++ Lib.decDigits l
theorem parse_dig2 {h l : Nat} (h1 : h < 1000000000) (h2 : l < 1000000000) : Lib.parseUint10 0 (dig2 h l) = .ok (h * 1000000000 + l) := by
 have hn : Lib.nDigits l ≤ 9 := nDigits_le 8 l (by simpa using h2)
 unfold dig2
 rw [List.append_assoc, parse_dec h 0 _ (by omega), Lib.decDigits_length]
 have e : h * 10 ^ (9 - Lib.nDigits l) * 10 ^ Lib.nDigits l = h * 1000000000 := by rw [Nat.mul_assoc, ← Nat.pow_add, show 9 - Lib.nDigits l + Lib.nDigits l = 9 by omega]
 have hle : h * 10 ^ (9 - Lib.nDigits l) ≤ h * 1000000000 := by rw [← e]; exact Nat.le_mul_of_pos_right _ (Nat.pow_pos (by decide))
 rw [Nat.zero_mul, Nat.zero_add, parse_zeros _ _ _ (by omega)]
 have := parse_dec l (h * 10 ^ (9 - Lib.nDigits l)) [] (by rw [e]; omega)
 rw [List.append_nil] at this
 rw [this, e]; rfl
theorem parse_dig1 {l : Nat} (h2 : l < 1000000000) : Lib.parseUint10 0 (Lib.decDigits l) = .ok l := by
 have := parse_dec l 0 [] (by omega)
 rw [List.append_nil] at this
 rw [this, Nat.zero_mul, Nat.zero_add]; rfl
theorem atoi_neg {l : List UInt8} {u : Nat} (h0 : l ≠ []) (h : Lib.parseUint10 0 l = .ok u) (hu : u < 9223372036854775808) : Lib.atoiAll (45 :: l) = .ok (-(u : Int)) := by
 unfold Lib.atoiAll Lib.parseMag
 simp [h0, h]
 omega
theorem atoi_pos {l : List UInt8} {u : Nat} (h0 : l ≠ []) (hd : ∀ c ∈ l, isDig c) (h : Lib.parseUint10 0 l = .ok u) (hu : u < 9223372036854775808) : Lib.atoiAll l = .ok (u : Int) := by
 cases l with
 | nil => exact absurd rfl h0
 | cons c r =>
  have hc := hd c (by simp)
  unfold isDig at hc
  unfold Lib.atoiAll Lib.parseMag
  have e1 : ¬ c.toNat = 43 := by omega
  have e2 : ¬ c.toNat = 45 := by omega
  have e3 : ¬ 9223372036854775808 ≤ u := by omega
  simp [e1, e2, h, e3]
end Go.Am.Sto
end
section
namespace Go.Am
open Go Go.Proofs
theorem read_knownY {P : Program} {G : Glob} (hm : P.follows .mixedOrders = true) (hn : NoNG P) (hp : GlobPlain G) {X : Known} (hX : KnownOk P G X) {Y : KnownK AV} (hY : KnownKOk X Y) {D : Live} {m loops n : Nat} {f : FuncId} {F : List AV → Option AV}
  (hF : ∀ ar x, F ar = some x → x.flat = true ∧ bodyY P G X Y loops n D Res.val? m P.funcs[f]? ar St.empty = some x) : ReadOk P G f F := by
 intro args s E w vs h hG ha
 unfold readX
 split
 ·rename_i ar har
  split
  ·rename_i x hx
   obtain ⟨h2, h3⟩ := hF ar x hx
   have h3 := bodyY_le hY h3
   have hz : ∀ b o v, E.stay w b o = some v → (E.look w).z b o = some v := fun _ _ _ e => e
   have this := bodyD_ok (D := D) hm hn (callN_ok hm hn hX loops n) m f ar St.empty (E.look w) w vs h.look (GlobOk.one h hp hG hz rfl) (convRL_ok h hz har ha)
   cases hb : bodyD P G (callN P G X loops n) D m P.funcs[f]? ar St.empty with
   | ret y s1 =>
    rw [hb] at h3 this
    simp only [Res.val?, Option.some.injEq] at h3
    subst h3
    rcases this with ⟨h4, h5⟩ | ⟨v', w', E', h4, h5, h6⟩
    ·exact .inl ⟨h4, Calls.mono h5 fun e w' ⟨v', E', he, hs, hv⟩ => ⟨v', E, he, .looked h hs, hv.flat h2⟩⟩
    ·exact .inr ⟨v', w', E, h4, .looked h h5, h6.flat h2⟩
   | _ => rw [hb] at h3; cases h3
  ·trivial
 ·trivial
end Go.Am
namespace Go.Am.Sto
open Go Go.Am Go.Proofs
theorem readX_agg {F : List AV → Option AV} {l : List AV} {s : St} {x : AV} (hp : AV.plains l = true) (hF : F [.agg l] = some x) : readX F [.agg l] s = .ret x s := by
 unfold readX
 have : convRL s [.agg l] = some [.agg l] := by
  show (match (bif AV.plain (.agg l) then some (AV.agg l) else none) with | some x => (match (some [] : Option (List AV)) with | some q => some (x :: q) | none => none) | none => none) = _
  rw [show AV.plain (.agg l) = true from hp]; rfl
 rw [this]
 simp only [hF]
theorem sndC_plain {neg nl : Bool} {cs : List AV} {n : Nat} (h : sndC neg cs n nl = true) : AV.plains cs = true := by
 unfold sndC sndN at h
 split at h <;> first | rfl | (cases h)
theorem sndC_num {neg tt nl : Bool} {cs : List AV} {n : Nat} (h : sndC neg cs n nl = true) : AV.plains [.bool neg, .lst cs n tt nl] = true := by
 show (true && (AV.plains cs && true)) = true
 rw [sndC_plain h]; rfl
theorem k35_le {β : Type} (ar : List AV) (s : St) (kr kr' : Res → Option β) (h : ∀ r, Le (kr r) (kr' r)) : Le (snd35K ar s kr) (kr' (readX F35 ar s)) := by
 unfold snd35K
 split
 ·rename_i neg cs n tt nl
  refine Le.ifK fun hc => ?_
  rw [readX_agg (F := F35) (sndC_num hc) (by show (bif sndC neg cs n nl then some (AV.bool true) else none) = _; rw [hc]; rfl)]
  exact h _
 ·exact .none _
theorem itF_eq : itF itoaN = F126 := by
 funext ar
 unfold itF F126 inR
 rfl
theorem k126_le {β : Type} (ar : List AV) (s : St) (kr kr' : Res → Option β) (h : ∀ r, Le (kr r) (kr' r)) : Le (itK itoaN ar s kr) (kr' (pureX (itF itoaN) ar s)) := by
 unfold itK
 split
 ·rename_i n
  refine Le.ifK fun hc => ?_
  have : pureX (itF itoaN) [.int .i64 n] s = .ret (.str (itoaN n)) s := by
   unfold pureX itF
   simp only
   rw [hc]; rfl
  rw [this]
  exact fun x hx => h _ x (cas9_le _ _ x hx)
 ·exact .none _
theorem kX60 : KnownOk Tryz.prog G2 (X60 itoaN) := (((kG2 kN).add k35).add (fun ar s E w vs h hG ha => k128 ar s E w vs h (G2_0 hG) ha)).add (by rw [itF_eq]; exact k126)
theorem kY60 {β : Type} : KnownKOk (X60 itoaN) (Y60 itoaN : KnownK β) := addH' (addP (addH' (KnownKOk.none _) 35 k35_le) 128 F128) 126 k126_le
/-! ## Text -/
def rngs : List AV → Bool
 | [] => true
 | .int .u32 a :: r => inR a && rngs r
 | _ => false
def gTxt (neg : Bool) (cs : List AV) (n : Nat) (nl : Bool) : Bool := sndC neg cs n nl && rngs cs
def sg (neg : Bool) : List Nat := bif neg then [45] else []
def txtA (neg : Bool) : List AV → List Nat
 | [] => [48]
 | [.int .u32 a] => sg neg ++ itoaN a
 | [.int .u32 a, .int .u32 b] => sg neg ++ itoaN b ++ List.replicate (9 - (itoaN a).length) 48 ++ itoaN a
 | _ => []
def F60 : List AV → Option AV
 | [.agg [.bool neg, .lst cs n _ nl]] => bif gTxt neg cs n nl then some (.str (txtA neg cs)) else none
 | _ => none
theorem inR_iff {a : Int} : inR a = true ↔ 0 ≤ a ∧ a ≤ 999999999 := by
 unfold inR
 rw [Bool.and_eq_true, leI_iff, leI_iff, decide_eq_true_iff, decide_eq_true_iff]
theorem inR_w {a : Int} (h : inR a = true) : w64i a = a := by
 have := inR_iff.1 h
 exact wrap64 (by omega) (by omega)
theorem itoaN_eq {a : Int} (h : 0 ≤ a) : itoaN a = (Lib.decDigits a.toNat).map (·.toNat) := by
 unfold itoaN Lib.itoa
 rw [if_neg (by omega)]
theorem itoaN_ne {a : Int} (h : inR a = true) : itoaN a ≠ [] := by
 rw [itoaN_eq (inR_iff.1 h).1]
 intro e
 exact decDigits_ne _ (List.map_eq_nil_iff.1 e)
theorem itoaN_len {a : Int} (h : inR a = true) : (itoaN a).length ≤ 9 := by
 rw [itoaN_eq (inR_iff.1 h).1, List.length_map, Lib.decDigits_length]
 exact nDigits_le 8 _ (by have := inR_iff.1 h; omega)
theorem itoaN_lt (a : Int) : ∀ c ∈ itoaN a, c < 256 := fun c hc => by
 obtain ⟨x, _, rfl⟩ := List.mem_map.1 hc
 exact x.toNat_lt
theorem sg_lt (neg : Bool) : ∀ c ∈ sg neg, c < 256 := fun c hc => by
 cases neg with
 | false => cases hc
 | true =>
  have : c = 45 := by simpa [sg] using hc
  omega
theorem lt_app {l m : List Nat} (h1 : ∀ c ∈ l, c < 256) (h2 : ∀ c ∈ m, c < 256) : ∀ c ∈ l ++ m, c < 256 := fun c hc => (List.mem_append.1 hc).elim (h1 c) (h2 c)
theorem k60 : ReadOk Tryz.prog G2 60 F60 := read_knownY (D := noLive) (m := 10) (loops := 10) (n := 12) hm hn G2_plain kX60 kY60 fun ar x hF => by
 unfold F60 at hF
 split at hF
 case h_2 => cases hF
 rename_i neg cs n tt nl
 cases hc : gTxt neg cs n nl with
 | false => rw [hc] at hF; cases hF
 | true =>
 rw [hc] at hF
 cases hF
 refine ⟨rfl, ?_⟩
 unfold gTxt at hc
 rw [Bool.and_eq_true] at hc
 obtain ⟨h1, h2⟩ := hc
 have hs := h1
 unfold sndC at h1
 rw [Bool.and_eq_true] at h1
 obtain ⟨h3, h4⟩ := h1
 unfold sndN at h3
 split at h3
 ·rw [t60a, hs]; rfl
 ·rename_i a
  cases nl with
  | true => cases h4
  | false =>
  have ha : inR a = true := by simpa [rngs] using h2
  rw [t60b, hs, inR_w ha, ha, cas9'_eq (itoaN_ne ha) (itoaN_len ha), cas9'_eq (itoaN_ne ha) (itoaN_len ha)]
  cases neg with
  | true => exact strR_ok (lt_app (sg_lt true) (itoaN_lt a))
  | false => exact strR_ok (itoaN_lt a)
 ·rename_i a b
  cases nl with
  | true => cases h4
  | false =>
  have hab : inR a = true ∧ inR b = true := by simpa [rngs] using h2
  obtain ⟨ha, hb⟩ := hab
  rw [t60c, hs, inR_w ha, inR_w hb, ha, hb, cas9'_eq (itoaN_ne hb) (itoaN_len hb), cas9'_eq (itoaN_ne hb) (itoaN_len hb), cas9'_eq (itoaN_ne ha) (itoaN_len ha), cas9'_eq (itoaN_ne ha) (itoaN_len ha)]
  have rep : ∀ c ∈ List.replicate (9 - (itoaN a).length) 48, c < 256 := fun c hc => by have := (List.mem_replicate.1 hc).2; omega
  cases neg with
  | true =>
   exact strR_ok (lt_app (lt_app (lt_app (sg_lt true) (itoaN_lt b)) rep) (itoaN_lt a))
  | false =>
   exact strR_ok (lt_app (lt_app (itoaN_lt b) rep) (itoaN_lt a))
 ·cases h3
end Go.Am.Sto
end
section
namespace Go.Am.Sto
open Go Go.Am Go.Proofs
def F60v (g : Bool → List AV → Nat → Bool → Bool) (t : Bool → List AV → List Nat) : List AV → Option AV
 | [.agg [.bool neg, .lst cs n _ nl]] => bif g neg cs n nl then some (.str (t neg cs)) else none
 | _ => none
def F59v (ok : List Nat → Bool) (v : List Nat → Int) : List AV → Option AV
 | [.str l] => bif ok l then some (.tup [.int .i64 (v l), .nilifc]) else none
 | _ => none
def txK {β : Type} (g : Bool → List AV → Nat → Bool → Bool) (t : Bool → List AV → List Nat) (ar : List AV) (s : St) (kr : Res → Option β) : Option β := match ar with
 | [.agg [.bool neg, .lst cs n _ nl]] => ifK (g neg cs n nl) (kr (.ret (.str (t neg cs)) s))
 | _ => none
def atK59 {β : Type} (ok : List Nat → Bool) (v : List Nat → Int) (ar : List AV) (s : St) (kr : Res → Option β) : Option β := match ar with
 | [.str l] => ifK (ok l) (kr (.ret (.tup [.int .i64 (v l), .nilifc]) s))
 | _ => none
section
variable (g : Bool → List AV → Nat → Bool → Bool) (t : Bool → List AV → List Nat) (ok : List Nat → Bool) (v : List Nat → Int)
def X36 : Known := ((Known.none.add 35 (readX F35)).add 60 (readX (F60v g t))).add 59 (pureX (F59v ok v))
def Y36 {β : Type} : KnownK β := ((KnownK.none.add 35 snd35K).add 60 (txK g t)).add 59 (atK59 ok v)
theorem t36 (neg tt nl : Bool) (cs : List AV) (n : Nat) : bodyY Tryz.prog G2 (X36 g t ok v) (Y36 g t ok v) 5 8 noLive Res.val? 5 Tryz.prog.funcs[36]? [.agg [.bool neg, .lst cs n tt nl]] St.empty =
  ifK (sndC neg cs n nl) (byB (!leI (.ofNat n) 3) (some (.tup [.int .i64 0, .bool false])) (ifK (g neg cs n nl) (ifK (ok (t neg cs)) (some (.tup [.int .i64 (v (t neg cs)), .bool true]))))) := by kernel_rfl
end
def okS (l : List Nat) : Bool := Nat.ble l.length 100 && (atoiV l).isSome
def vS (l : List Nat) : Int := (atoiV l).getD 0
theorem F60_eq : F60v gTxt txtA = F60 := by
 funext ar
 unfold F60 F60v
 rfl
theorem F59_of {ar : List AV} {x : AV} (h : F59v okS vS ar = some x) : F59 ar = some x := by
 unfold F59v at h
 split at h
 case h_2 => cases h
 rename_i l
 cases hc : okS l with
 | false => rw [hc] at h; cases h
 | true =>
  rw [hc] at h
  cases h
  unfold okS at hc
  rw [Bool.and_eq_true] at hc
  obtain ⟨h1, h2⟩ := hc
  obtain ⟨z, hz⟩ := Option.isSome_iff_exists.1 h2
  unfold F59 vS
  simp only [hz, Option.getD_some]
  rw [h1]; rfl
theorem k59v : ∀ (args : List AV) (s : St) (E : Env) (w : World) (vs : List Value), Rel E s w → GlobOk E G2 w → VRL E args vs → ResOk Tryz.prog E s w 59 vs (pureX (F59v okS vS) args s) := by
 intro args s E w vs h hG ha
 cases hx : F59v okS vS args with
 | none => unfold pureX; rw [hx]; trivial
 | some x =>
  have := k59 args s E w vs h hG ha
  unfold pureX at this ⊢
  rw [hx]
  rw [F59_of hx] at this
  exact this
theorem kX36 : KnownOk Tryz.prog G2 (X36 gTxt txtA okS vS) := (((KnownOk.none _ _).add k35).add (by rw [F60_eq]; exact k60)).add k59v
theorem gTxt_snd {neg nl : Bool} {cs : List AV} {n : Nat} (h : gTxt neg cs n nl = true) : sndC neg cs n nl = true := by
 unfold gTxt at h
 rw [Bool.and_eq_true] at h
 exact h.1
theorem k60_le {β : Type} (ar : List AV) (s : St) (kr kr' : Res → Option β) (h : ∀ r, Le (kr r) (kr' r)) : Le (txK gTxt txtA ar s kr) (kr' (readX (F60v gTxt txtA) ar s)) := by
 unfold txK
 split
 ·rename_i neg cs n tt nl
  refine Le.ifK fun hc => ?_
  rw [readX_agg (F := F60v gTxt txtA) (sndC_num (gTxt_snd hc)) (by show (bif gTxt neg cs n nl then some (AV.str (txtA neg cs)) else none) = _; rw [hc]; rfl)]
  exact h _
 ·exact .none _
theorem k59_le {β : Type} (ar : List AV) (s : St) (kr kr' : Res → Option β) (h : ∀ r, Le (kr r) (kr' r)) : Le (atK59 okS vS ar s kr) (kr' (pureX (F59v okS vS) ar s)) := by
 unfold atK59
 split
 ·rename_i l
  refine Le.ifK fun hc => ?_
  have : pureX (F59v okS vS) [.str l] s = .ret (.tup [.int .i64 (vS l), .nilifc]) s := by
   unfold pureX F59v
   simp only
   rw [hc]; rfl
  rw [this]
  exact h _
 ·exact .none _
theorem kY36 {β : Type} : KnownKOk (X36 gTxt txtA okS vS) (Y36 gTxt txtA okS vS : KnownK β) := addH' (addH' (addH' (KnownKOk.none _) 35 k35_le) 60 k60_le) 59 k59_le
/-! ## What Small gives -/
def sgn (neg : Bool) (x : Int) : Int := bif neg then -x else x
def valA (neg : Bool) : List AV → Int
 | [.int .u32 a] => sgn neg a
 | [.int .u32 a, .int .u32 b] => sgn neg (b * 1000000000 + a)
 | _ => 0
theorem back_itoa {a : Int} (h : inR a = true) : (itoaN a).map UInt8.ofNat = Lib.decDigits a.toNat := by rw [itoaN_eq (inR_iff.1 h).1, bytes_back]
theorem back_dig2 {a b : Int} (ha : inR a = true) (hb : inR b = true) : (itoaN b ++ List.replicate (9 - (itoaN a).length) 48 ++ itoaN a).map UInt8.ofNat = dig2 b.toNat a.toNat := by
 have : (itoaN a).length = (Lib.decDigits a.toNat).length := by rw [itoaN_eq (inR_iff.1 ha).1, List.length_map]
 rw [List.map_append, List.map_append, back_itoa ha, back_itoa hb, List.map_replicate, this]
 rfl
theorem dig2_dig (h l : Nat) : ∀ c ∈ dig2 h l, isDig c := fun c hc => by
 unfold dig2 at hc
 rcases List.mem_append.1 hc with h1 | h1
 ·rcases List.mem_append.1 h1 with h2 | h2
  ·exact decDigits_dig _ c h2
  ·have := (List.mem_replicate.1 h2).2
   subst this
   exact ⟨by decide, by decide⟩
 ·exact decDigits_dig _ c h1
theorem dig2_ne (h l : Nat) : dig2 h l ≠ [] := by
 unfold dig2
 intro e
 rw [List.append_eq_nil_iff] at e
 exact decDigits_ne _ e.2
theorem atoiV_txt {neg nl : Bool} {cs : List AV} {n : Nat} (h : gTxt neg cs n nl = true) : atoiV (txtA neg cs) = some (valA neg cs) ∧ (txtA neg cs).length ≤ 100 := by
 unfold gTxt at h
 rw [Bool.and_eq_true] at h
 obtain ⟨h1, h2⟩ := h
 unfold sndC at h1
 rw [Bool.and_eq_true] at h1
 obtain ⟨h3, h4⟩ := h1
 unfold sndN at h3
 split at h3
 ·exact ⟨rfl, by show 1 ≤ 100; omega⟩
 ·rename_i a
  have ha : inR a = true := by simpa [rngs] using h2
  have hr := inR_iff.1 ha
  have hl := itoaN_len ha
  cases neg with
  | true =>
   refine ⟨?_, by show (45 :: itoaN a).length ≤ 100; simp only [List.length_cons]; omega⟩
   show (match Lib.atoiAll (UInt8.ofNat 45 :: (itoaN a).map UInt8.ofNat) with | .ok v => some v | _ => none) = _
   rw [back_itoa ha]
   have := atoi_neg (decDigits_ne a.toNat) (parse_dig1 (l := a.toNat) (by omega)) (by omega)
   rw [show UInt8.ofNat 45 = 45 from rfl, this]
   show some (-((a.toNat : Nat) : Int)) = some (-a)
   rw [Int.toNat_of_nonneg hr.1]
  | false =>
   refine ⟨?_, by show (itoaN a).length ≤ 100; omega⟩
   show (match Lib.atoiAll ((itoaN a).map UInt8.ofNat) with | .ok v => some v | _ => none) = _
   rw [back_itoa ha, atoi_pos (decDigits_ne a.toNat) (decDigits_dig _) (parse_dig1 (l := a.toNat) (by omega)) (by omega)]
   show some ((a.toNat : Nat) : Int) = some a
   rw [Int.toNat_of_nonneg hr.1]
 ·rename_i a b
  have hab : inR a = true ∧ inR b = true := by simpa [rngs] using h2
  obtain ⟨ha, hb⟩ := hab
  have hra := inR_iff.1 ha
  have hrb := inR_iff.1 hb
  have hla := itoaN_len ha
  have hlb := itoaN_len hb
  have hp := parse_dig2 (h := b.toNat) (l := a.toNat) (by omega) (by omega)
  cases neg with
  | true =>
   refine ⟨?_, by show (45 :: (itoaN b ++ List.replicate (9 - (itoaN a).length) 48 ++ itoaN a)).length ≤ 100; simp only [List.length_cons, List.length_append, List.length_replicate]; omega⟩
   show (match Lib.atoiAll (UInt8.ofNat 45 :: (itoaN b ++ List.replicate (9 - (itoaN a).length) 48 ++ itoaN a).map UInt8.ofNat) with | .ok v => some v | _ => none) = _
   rw [back_dig2 ha hb, show UInt8.ofNat 45 = 45 from rfl, atoi_neg (dig2_ne _ _) hp (by omega)]
   show some (-((b.toNat * 1000000000 + a.toNat : Nat) : Int)) = some (-(b * 1000000000 + a))
   congr 2; omega
  | false =>
   refine ⟨?_, by show (itoaN b ++ List.replicate (9 - (itoaN a).length) 48 ++ itoaN a).length ≤ 100; simp only [List.length_append, List.length_replicate]; omega⟩
   show (match Lib.atoiAll ((itoaN b ++ List.replicate (9 - (itoaN a).length) 48 ++ itoaN a).map UInt8.ofNat) with | .ok v => some v | _ => none) = _
   rw [back_dig2 ha hb, atoi_pos (dig2_ne _ _) (dig2_dig _ _) hp (by omega)]
   show some ((b.toNat * 1000000000 + a.toNat : Nat) : Int) = some (b * 1000000000 + a)
   congr 1; omega
 ·cases h3
def F36 : List AV → Option AV
 | [.agg [.bool neg, .lst cs n _ nl]] => bif gTxt neg cs n nl then some (.tup [.int .i64 (valA neg cs), .bool true]) else none
 | _ => none
theorem gTxt_len {neg nl : Bool} {cs : List AV} {n : Nat} (h : gTxt neg cs n nl = true) : n ≤ 3 := by
 have h1 := gTxt_snd h
 unfold sndC at h1
 rw [Bool.and_eq_true] at h1
 have h3 := h1.1
 unfold sndN at h3
 split at h3
 ·omega
 ·omega
 ·omega
 ·cases h3
theorem k36 : ReadOk Tryz.prog G2 36 F36 := read_knownY (D := noLive) (m := 5) (loops := 5) (n := 8) hm hn G2_plain kX36 kY36 fun ar x hF => by
 unfold F36 at hF
 split at hF
 case h_2 => cases hF
 rename_i neg cs n tt nl
 cases hc : gTxt neg cs n nl with
 | false => rw [hc] at hF; cases hF
 | true =>
 rw [hc] at hF
 cases hF
 refine ⟨rfl, ?_⟩
 have hn3 := gTxt_len hc
 obtain ⟨h1, h2⟩ := atoiV_txt hc
 rw [t36, gTxt_snd hc, leI_t (show Int.ofNat n ≤ 3 by simp only [Int.ofNat_eq_natCast]; omega), hc]
 have hok : okS (txtA neg cs) = true := by
  unfold okS
  rw [h1, Nat.ble_eq_true_of_le h2]; rfl
 have hv : vS (txtA neg cs) = valA neg cs := by unfold vS; rw [h1]; rfl
 rw [hok, hv]
 rfl
theorem gTxt_1 (neg : Bool) (a : Int) : gTxt neg ([a].map (AV.int .u32)) [a].length [a].isEmpty = (((!eqI a 0 && !leI 1000000000 a) && true) && (inR a && true)) := rfl
theorem gTxt_2 (neg : Bool) (a b : Int) : gTxt neg ([a, b].map (AV.int .u32)) [a, b].length [a, b].isEmpty = (((!eqI b 0 && (!leI 1000000000 a && !leI 1000000000 b)) && true) && (inR a && (inR b && true))) := rfl
theorem valA_1 (neg : Bool) (a : Int) : valA neg ([a].map (AV.int .u32)) = sgn neg a := rfl
theorem valA_2 (neg : Bool) (a b : Int) : valA neg ([a, b].map (AV.int .u32)) = sgn neg (b * 1000000000 + a) := rfl
theorem eqI_ne : ∀ {a : Int}, 0 < a → eqI a 0 = false
 | .ofNat (k + 1), _ => rfl
 | .ofNat 0, h => absurd h (by decide)
 | .negSucc k, h => by omega
theorem sgn_of {z x : Int} (h : x = ((z.natAbs : Nat) : Int)) : sgn (decide (z < 0)) x = z := by
 subst h
 by_cases hz : z < 0
 ·rw [decide_eq_true hz]
  show -((z.natAbs : Nat) : Int) = z
  omega
 ·rw [decide_eq_false hz]
  show ((z.natAbs : Nat) : Int) = z
  omega
theorem limbs_ok {z : Int} (h : small z = true) : gTxt (decide (z < 0)) ((limbs z.natAbs).map (AV.int .u32)) (limbs z.natAbs).length (limbs z.natAbs).isEmpty = true ∧ valA (decide (z < 0)) ((limbs z.natAbs).map (AV.int .u32)) = z := by
 unfold small at h
 rw [Bool.and_eq_true, leI_iff, leI_iff, decide_eq_true_iff, decide_eq_true_iff] at h
 by_cases h0 : z.natAbs = 0
 ·have : z = 0 := by omega
  subst this
  exact ⟨rfl, rfl⟩
 ·by_cases h1 : z.natAbs < 1000000000
  ·have hl : limbs z.natAbs = [((z.natAbs : Nat) : Int)] := by unfold limbs; rw [if_neg h0, if_pos h1]
   rw [hl, gTxt_1, valA_1]
   refine ⟨?_, sgn_of rfl⟩
   rw [eqI_ne (by omega), leI_f (show ((z.natAbs : Nat) : Int) < 1000000000 by omega), inR_iff.2 ⟨by omega, by omega⟩]; rfl
  ·have hl : limbs z.natAbs = [((z.natAbs % 1000000000 : Nat) : Int), ((z.natAbs / 1000000000 : Nat) : Int)] := by unfold limbs; rw [if_neg h0, if_neg h1]
   rw [hl, gTxt_2, valA_2]
   refine ⟨?_, sgn_of (by omega)⟩
   rw [eqI_ne (by omega), leI_f (show ((z.natAbs % 1000000000 : Nat) : Int) < 1000000000 by omega), leI_f (show ((z.natAbs / 1000000000 : Nat) : Int) < 1000000000 by omega), inR_iff.2 ⟨by omega, by omega⟩, inR_iff.2 ⟨by omega, by omega⟩]; rfl
end Go.Am.Sto
end
section
namespace Go.Am.Sto
open Go Go.Am Go.Proofs
def F38y := orF F38x F38b
def F36v (g : Bool → List AV → Nat → Bool → Bool) (v : Bool → List AV → Int) : List AV → Option AV
 | [.agg [.bool neg, .lst cs n _ nl]] => bif g neg cs n nl then some (.tup [.int .i64 (v neg cs), .bool true]) else none
 | _ => none
def smK {β : Type} (g : Bool → List AV → Nat → Bool → Bool) (v : Bool → List AV → Int) (ar : List AV) (s : St) (kr : Res → Option β) : Option β := match ar with
 | [.agg [.bool neg, .lst cs n _ nl]] => ifK (g neg cs n nl) (kr (.ret (.tup [.int .i64 (v neg cs), .bool true]) s))
 | _ => none
section
variable (c ng : Int → Bool) (ls : Int → List AV) (ln : Int → Nat) (le : Int → Bool) (g : Bool → List AV → Nat → Bool → Bool) (v : Bool → List AV → Int)
end
end Go.Am.Sto
end
section
namespace Go.Am.Sto
open Go Go.Am Go.Proofs
abbrev v3 (a b c e f h : Int) : List AV := [.int .i64 a, .int .i64 b, .int .i64 c, .int .i64 e, .int .i64 f, .int .i64 h]
section
variable (c ng : Int → Bool) (ls : Int → List AV) (ln : Int → Nat) (le : Int → Bool) (g : Bool → List AV → Nat → Bool → Bool) (v : Bool → List AV → Int)
variable (d : Hid) (tt : Bool) (i z t n a b : Int)
end
end Go.Am.Sto
end
section
namespace Go.Am.Sto
open Go Go.Am Go.Proofs
section
variable (d : Hid) (a b : Int) (tt : Bool)
end
end Go.Am.Sto
end
section
namespace Go.Am.Sto
open Go Go.Am Go.Proofs
section
variable (d : Hid) (a b : Int) (tt : Bool) (t n : Int) (e : Nat)
end
end Go.Am.Sto
end
section
namespace Go.Am.Sto
open Go Go.Am Go.Proofs
section
variable (d : Hid) (a b : Int) (tt : Bool) (t n : Int) (e : Nat)
end
end Go.Am.Sto
end
section
namespace Go.Am.Sto
open Go Go.Am Go.Proofs
section
variable (d : Hid) (a b : Int) (tt : Bool)
end
end Go.Am.Sto
end
section
namespace Go.Am.Sto
open Go Go.Am Go.Proofs
section
variable (d : Hid) (a b : Int) (tt : Bool) (c1 c2 : List AV → St → Bool) (k e : Nat) (t n : Int) (C C' : List AV)
end
end Go.Am.Sto
end
section
namespace Go.Am.Sto
open Go Go.Am Go.Proofs
theorem same_cells : ∀ l : List V2, AV.sames (cellsA l) (cellsA l) = true
 | [] => rfl
 | p :: l => by
  show ((kindEq .i64 .i64 && eqI p.1 p.1) && ((kindEq .i64 .i64 && eqI p.2 p.2) && AV.sames (cellsA l) (cellsA l))) = true
  rw [eqI_self, eqI_self, same_cells l]; rfl
theorem same_lst (l : List V2) (n : Nat) (tt nl : Bool) : AV.same (.lst (cellsA l) n tt nl) (.lst (cellsA l) n tt nl) = true := by
 show (n.beq n && ((bif tt then tt else !tt) && ((bif nl then nl else !nl) && AV.sames (cellsA l) (cellsA l)))) = true
 rw [same_cells, beq_self']
 cases tt <;> cases nl <;> rfl
end Go.Am.Sto
end
section
namespace Go.Am.Sto
open Go Go.Am Go.Proofs
theorem kM2 {f : FuncId} {F : Hid → List AV → Option (Bool × AV × Hid)} (h : MethOk Tryz.prog G0 f F) : MethOk Tryz.prog G2 f F := fun ar s E w vs h1 h2 h3 => h ar s E w vs h1 (G2_0 h2) h3
abbrev ngS (z : Int) : Bool := decide (z < 0)
abbrev lsS (z : Int) : List AV := (limbs z.natAbs).map (AV.int .u32)
abbrev lnS (z : Int) : Nat := (limbs z.natAbs).length
abbrev leS (z : Int) : Bool := (limbs z.natAbs).isEmpty
theorem F36_eq : F36v gTxt valA = F36 := by
 funext ar
 unfold F36v F36
 rfl
theorem k36_le {β : Type} (ar : List AV) (s : St) (kr kr' : Res → Option β) (h : ∀ r, Le (kr r) (kr' r)) : Le (smK gTxt valA ar s kr) (kr' (readX (F36v gTxt valA) ar s)) := by
 unfold smK
 split
 ·rename_i neg cs n tt nl
  refine Le.ifK fun hc => ?_
  rw [readX_agg (F := F36v gTxt valA) (sndC_num (gTxt_snd hc)) (by show (bif gTxt neg cs n nl then some (AV.tup [.int .i64 (valA neg cs), .bool true]) else none) = _; rw [hc]; rfl)]
  exact h _
 ·exact .none _
theorem k38y : MethOk Tryz.prog G0 38 F38y := meth_or k38x k38b
/-! ## What they give -/
theorem eqI_of : ∀ {a b : Int}, eqI a b = true → a = b
 | .ofNat a, .ofNat b, h => by rw [Nat.eq_of_beq_eq_true (show a.beq b = true from h)]
 | .negSucc a, .negSucc b, h => by rw [Nat.eq_of_beq_eq_true (show a.beq b = true from h)]
 | .ofNat _, .negSucc _, h => by cases h
 | .negSucc _, .ofNat _, h => by cases h
end Go.Am.Sto
end
section
namespace Go.Am
open Go Go.Proofs
def m2F (F : Hid → List AV → Option (Bool × Bool × AV × AV × Hid)) (d : Hid) (ar : List AV) : Option (Bool × AV × Hid) := match F d ar with
 | some (p, c, x, y, d') => some (p, byB c x y, d')
 | none => none
def methK2 {β : Type} (F : Hid → List AV → Option (Bool × Bool × AV × AV × Hid)) : List AV → St → (Res → Option β) → Option β := fun args s kr =>
 match findH s args with
 | some n => match s.get n with
  | some (.hid d) => convML s n args fun ar => match F d ar with
   | some p => ifK p.1 (byB p.2.1 (kr (.ret p.2.2.1 (s.set n (.hid p.2.2.2.2)))) (kr (.ret p.2.2.2.1 (s.set n (.hid p.2.2.2.2)))))
   | none => none
  | _ => none
 | none => none
theorem methK2_le {β : Type} (F : Hid → List AV → Option (Bool × Bool × AV × AV × Hid)) : ∀ args s (kr kr' : Res → Option β), (∀ r, Le (kr r) (kr' r)) → Le (methK2 F args s kr) (kr' (methX (m2F F) args s)) := by
 intro args s kr kr' h x hx
 unfold methK2 at hx
 split at hx
 ·rename_i n hn
  split at hx
  ·rename_i d hd
   obtain ⟨ar, h1, h2⟩ := convML_eq (δ := Bool × AV × Hid) hx
   split at h1
   ·rename_i p hp
    obtain ⟨hc, h1⟩ := ifK_some h1
    obtain ⟨p1, c, y, z, d'⟩ := p
    have e : methX (m2F F) args s = .ret (byB c y z) (s.set n (.hid d')) := by
     simp only [methX, hn, hd]
     rw [h2, m2F, hp]
     simp only at hc
     simp only [hc, cond_true]
    rw [e]
    cases c with
    | true => exact h _ x h1
    | false => exact h _ x h1
   ·cases h1
  ·cases hx
 ·cases hx
end Go.Am
namespace Go.Am.Sto
open Go Go.Am Go.Proofs
theorem addK2 {β : Type} {X : Known} {Y : KnownK β} (hY : KnownKOk X Y) (f : FuncId) (F : Hid → List AV → Option (Bool × Bool × AV × AV × Hid)) : KnownKOk (X.add f (methX (m2F F))) (Y.add f (methK2 F)) := addH' hY f (methK2_le F)
def F83z (d : Hid) : List AV → Option (Bool × AV × Hid)
 | [.hptr 0, .agg [.int .i64 t, .int .i64 n]] => some (eqI (kindOf d.rows t n) 0, .int .i64 0, d)
 | _ => none
theorem k83z : MethOk Tryz.prog G0 83 F83z := by
 intro args s E w vs h1 hG ha
 have k := k83 args s E w vs h1 hG ha
 unfold methX at k ⊢
 split
 ·rename_i n hn
  simp only [hn] at k
  split
  ·rename_i d hd
   simp only [hd] at k
   split
   ·rename_i p hp
    obtain ⟨br, q1, q2⟩ := convML_eq (δ := Bool × AV × Hid) hp
    rw [q2] at k
    obtain ⟨cc, x, d'⟩ := p
    cases cc with
    | false => trivial
    | true =>
     have : F83 d br = some (true, x, d') := by
      unfold F83z at q1
      split at q1
      case h_2 => cases q1
      rename_i t m
      simp only [Option.some.injEq, Prod.mk.injEq] at q1
      obtain ⟨e1, rfl, rfl⟩ := q1
      show some (true, AV.int .i64 (kindOf d.rows t m), d) = _
      rw [eqI_of e1]
     rw [this] at k; exact k
   ·trivial
  ·trivial
 ·trivial
def numZ (isn : Int → Int → Bool) (ng : Int → Bool) (ls : Int → List AV) (ln : Int → Nat) (le : Int → Bool) (d : Hid) : List AV → Option (Bool × Bool × AV × AV × Hid)
 | [.hptr 0, .agg [.int .i64 t, .int .i64 z]] => some (eqI (kindOf d.rows t z) 0, isn t z, .tup [.agg [.bool (ng z), .lst (ls z) (ln z) false (le z)], .int .i64 0], .tup [.agg [.bool false, .lst [] 0 false true], .int .i64 10], d)
 | _ => none
theorem t114z (d : Hid) (t z : Int) : bodyY Tryz.prog G2 (Known.none.add 83 (methX F83z)) (KnownK.none.add 83 (methK F83z)) 3 12 noLive Res.meth? 3 Tryz.prog.funcs[114]? [.hptr 0, .agg [.int .i64 t, .int .i64 z]] (St.one d) =
  byB (eqI t 4) (byB (!leI z (-1000000000000000000)) (byB (!leI 1000000000000000000 z) (byB (!leI 0 z) (limbT d (!leI 0 z) (W64 (0 - W64 z))) (limbT d (!leI 0 z) (W64 z))) (ifK (eqI (kindOf d.rows t z) 0) (numR d false [] 10))) (ifK (eqI (kindOf d.rows t z) 0) (numR d false [] 10))) (ifK (eqI (kindOf d.rows t z) 0) (numR d false [] 10)) := by kernel_rfl
end Go.Am.Sto
end
