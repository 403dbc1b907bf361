import Derived.Test.YtlibahklbbachaaGreatDoorTx20
import Derived.Test.YtlibahklbbachaaGreatDoorTx13
import Derived.Test.YtlibahklbbachaaGreatDoorTx15
import Derived.Test.YtlibahklbbachaaGreatDoorTx11
set_option autoImplicit false
set_option maxRecDepth 100000
set_option linter.unusedSimpArgs false
set_option linter.unusedVariables false
set_option maxHeartbeats 8000000
section
namespace Go.Am.Txt
open Go Go.Am Go.Proofs Go.Am.Sto
def ifX (c : List AV → Bool) (a b : List AV → St → Res) : List AV → St → Res := fun ar s => bif c ar then a ar s else b ar s
def ifKn {β : Type} (c : List AV → Bool) (a b : List AV → St → (Res → Option β) → Option β) : List AV → St → (Res → Option β) → Option β := fun ar s kr => bif c ar then a ar s kr else b ar s kr
abbrev OkF (G : Glob) (f : FuncId) (h : List AV → St → Res) : Prop := ∀ (args : List AV) (s : St) (E : Env) (w : World) (vs : List Value), Rel E s w → GlobOk E G w → VRL E args vs → ResOk Tryz.prog E s w f vs (h args s)
theorem ifX_ok {G : Glob} {f : FuncId} {c : List AV → Bool} {a b : List AV → St → Res} (ha : OkF G f a) (hb : OkF G f b) : OkF G f (ifX c a b) := by
  intro ar s E w vs h1 h2 h3
  unfold ifX
  cases c ar with
  | true => exact ha ar s E w vs h1 h2 h3
  | false => exact hb ar s E w vs h1 h2 h3
abbrev LeF {β : Type} (h : List AV → St → Res) (hk : List AV → St → (Res → Option β) → Option β) : Prop := ∀ args s (kr kr' : Res → Option β), (∀ r, Le (kr r) (kr' r)) → Le (hk args s kr) (kr' (h args s))
theorem ifKn_le {β : Type} {c : List AV → Bool} {a b : List AV → St → Res} {ka kb : List AV → St → (Res → Option β) → Option β} (ha : LeF a ka) (hb : LeF b kb) : LeF (ifX c a b) (ifKn c ka kb) := by
  intro ar s kr kr' h
  unfold ifX ifKn
  cases c ar with
  | true => exact ha ar s kr kr' h
  | false => exact hb ar s kr kr' h
theorem u0 {f : FuncId} {h : List AV → St → Res} (k : OkF G0 f h) : OkF (GU H0) f h := fun ar s E w vs h1 h2 h3 => k ar s E w vs h1 (GU_0 h2) h3
theorem u2 {f : FuncId} {h : List AV → St → Res} (k : OkF G2 f h) : OkF (GU H0) f h := fun ar s E w vs h1 h2 h3 => k ar s E w vs h1 (GU_2 h2) h3
theorem kU0 {X : Known} (h : KnownOk Tryz.prog G0 X) : KnownOk Tryz.prog (GU H0) X := fun f g hf => u0 (h f g hf)
theorem meth_mono {G : Glob} {f : FuncId} {F F' : Hid → List AV → Option (Bool × AV × Hid)} (h : MethOk Tryz.prog G f F) (hF : ∀ d ar x d', F' d ar = some (true, x, d') → F d ar = some (true, x, d')) : MethOk Tryz.prog G f F' := by
  intro args s E w vs h1 hG ha
  have k := h args s E w vs h1 hG ha
  unfold methX at k ⊢
  split
  · rename_i n hn
    simp only [hn] at k
    split
    · rename_i d hd
      simp only [hd] at k
      split
      · rename_i p hp
        obtain ⟨br, q1, q2⟩ := convML_eq (δ := Bool × AV × Hid) hp
        rw [q2] at k
        obtain ⟨c, x, d'⟩ := p
        cases c with
        | false => trivial
        | true => rw [hF d br x d' q1] at k; exact k
      · trivial
    · trivial
  · trivial
end Go.Am.Txt
end
section
namespace Go.Proofs
open Go.RowKit in
theorem Tryz.strconv_Atoi_range' (s : ByteArray) (hlim : s.size ≤ 281474976710656) (h : Lib.atoiAll s.data.toList = .range) (ev : Value) (w : World) (hv : w.cell? ⟨3, 0, none⟩ = some ev) (hev : ev = .nilIface ∨ ∃ te pe, ev = .iface te pe) :
    Calls Tryz.prog 59 #[.string s] w fun e w' => ∃ N, e = .returned (.tuple #[.int .i64 (Lib.atoiSat s.data.toList), .iface 223 (.pointer (some ⟨N, 0, none⟩))]) ∧ w.heap.size ≤ N ∧ w'.heap[N]? = some (.cells #[.string ⟨#[65, 116, 111, 105]⟩, .string s, ev] 259 (0, 0)) ∧ Below w.heap.size w w' :=
  Any.strconv_Atoi_range Tryz.laysC172 s hlim h ev w hv hev
end Go.Proofs
namespace Go.Am
open Go Go.Proofs
end Go.Am
namespace Go.Am.Sto
open Go Go.Am Go.Proofs
section
variable (ac aok : List Nat → Bool) (av : List Nat → Int)
def X59 : List AV → St → Res := fun ar s => match ar with
  | [.str l] => bif ac l then (bif aok l then .ret (.tup [.int .i64 (av l), .nilifc]) s else .ret (.tup [.int .i64 (av l), .ifc 223 .undef]) s) else .fail
  | _ => .fail
def K59 {β : Type} (ar : List AV) (s : St) (kr : Res → Option β) : Option β := match ar with
  | [.str l] => ifK (ac l) (byB (aok l) (kr (.ret (.tup [.int .i64 (av l), .nilifc]) s)) (kr (.ret (.tup [.int .i64 (av l), .ifc 223 .undef]) s)))
  | _ => none
theorem K59_le {β : Type} (ar : List AV) (s : St) (kr kr' : Res → Option β) (h : ∀ r, Le (kr r) (kr' r)) : Le (K59 ac aok av ar s kr) (kr' (X59 ac aok av ar s)) := by
  unfold K59 X59
  split
  · rename_i l
    refine Le.ifK fun hc => ?_
    rw [hc]
    cases hk : aok l with
    | true => exact h _
    | false => exact h _
  · exact .none _
end
def atE (l : List Nat) : Lib.NumEnd Int := Lib.atoiAll (l.map UInt8.ofNat)
def ac59 (l : List Nat) : Bool := Nat.ble l.length 100 && (match atE l with | .ok _ => true | .range => true | _ => false)
def aok59 (l : List Nat) : Bool := match atE l with | .ok _ => true | _ => false
def av59 (l : List Nat) : Int := match atE l with | .ok v => v | _ => Lib.atoiSat (l.map UInt8.ofNat)
theorem k59r : ∀ (args : List AV) (s : St) (E : Env) (w : World) (vs : List Value), Rel E s w → GlobOk E G2 w → VRL E args vs → ResOk Tryz.prog E s w 59 vs (X59 ac59 aok59 av59 args s) := by
  intro args s E w vs h hG ha
  unfold X59
  split
  case h_2 => trivial
  rename_i l
  cases hc : ac59 l with
  | false => trivial
  | true =>
    have hc' := hc
    unfold ac59 at hc'
    rw [Bool.and_eq_true] at hc'
    have h100 : l.length ≤ 100 := Nat.le_of_ble_eq_true hc'.1
    cases hk : aok59 l with
    | true =>
      have hat : ∃ v, atE l = .ok v := by
        unfold aok59 at hk
        split at hk
        · exact ⟨_, by assumption⟩
        · cases hk
      obtain ⟨v, hv⟩ := hat
      have hF : F59 [.str l] = some (.tup [.int .i64 (av59 l), .nilifc]) := by
        have e1 : atoiV l = some v := by
          unfold atoiV
          rw [show Lib.atoiAll (l.map UInt8.ofNat) = .ok v from hv]
        have e2 : av59 l = v := by unfold av59; rw [hv]
        unfold F59
        simp only [e1, e2]
        rw [Nat.ble_eq_true_of_le h100]; rfl
      have k := k59 [.str l] s E w vs h hG ha
      unfold pureX at k
      rw [hF] at k
      exact k
    | false =>
      have hat : atE l = .range := by
        unfold aok59 at hk
        have h2 := hc'.2
        rcases hx : atE l with v | _ | _
        · rw [hx] at hk; cases hk
        · rw [hx] at h2; cases h2
        · rfl
      have hav : av59 l = Lib.atoiSat (l.map UInt8.ofNat) := by unfold av59; rw [hat]
      show ResOk Tryz.prog E s w 59 vs (.ret (.tup [.int .i64 (av59 l), .ifc 223 .undef]) s)
      rw [hav]
      cases ha with
      | cons h1 h2 =>
        cases h2
        cases h1 with
        | str sb =>
          unfold atE at hat
          rw [bytes_back] at hat ⊢
          simp only [List.length_map, Array.length_toList] at h100
          obtain ⟨us, g1, g2⟩ := hG.1.1 3 [.ifc 275 .undef] rfl
          obtain ⟨ev, hev⟩ : ∃ pe, us = [.iface 275 pe] := by
            cases g1 with
            | cons g1 g3 => cases g3; cases g1; exact ⟨_, rfl⟩
          subst hev
          have hcell := h.z _ _ _ (g2 0 _ rfl)
          refine .inl ⟨⟨Tryz.f59, Tryz.func59, rfl, hn 59 _ Tryz.func59⟩, (Tryz.strconv_Atoi_range' sb (by have : sb.size = sb.data.size := rfl; omega) hat _ w hcell (.inr ⟨_, _, rfl⟩)).mono fun e w' ⟨N, he, _, _, hb⟩ => ⟨_, E, he, ?_, .tup (.cons (.int _ _) (.cons (.ifc (.undef _)) .nil))⟩⟩
          exact Step.fresh h (fun b hb' => hb.block b hb') hb.os hb.tape hb.output hb.size
def NumR {α : Type} (x : Lib.NumEnd α) : Prop := (∃ v, x = .ok v) ∨ x = .range
theorem NumR.ok {α : Type} {v : α} : NumR (.ok v : Lib.NumEnd α) := .inl ⟨v, rfl⟩
theorem NumR.range {α : Type} : NumR (.range : Lib.NumEnd α) := .inr rfl
theorem parse_ns : ∀ (l : List UInt8) (acc : Nat), (∀ c ∈ l, isDig c) → NumR (Lib.parseUint10 acc l)
  | [], acc, _ => by simp only [Lib.parseUint10]; exact .ok
  | c :: r, acc, h => by
    have hc := h c (by simp)
    unfold isDig at hc
    simp only [Lib.parseUint10]
    rw [if_pos hc]
    split
    · exact .range
    · split
      · exact .range
      · exact parse_ns r _ fun x hx => h x (List.mem_cons_of_mem _ hx)
theorem atoi_ns {l : List UInt8} (h : ∀ c ∈ l, isDig c) (h0 : l ≠ []) : NumR (Lib.atoiAll l) ∧ NumR (Lib.atoiAll (45 :: l)) := by
  have hp := parse_ns l 0 h
  refine ⟨?_, ?_⟩
  · cases l with
    | nil => exact absurd rfl h0
    | cons c r =>
      have hc := h c (by simp)
      unfold isDig at hc
      unfold Lib.atoiAll Lib.parseMag
      have e1 : ¬ c.toNat = 43 := by omega
      have e2 : ¬ c.toNat = 45 := by omega
      simp only [e1, e2, or_self, if_false]
      rw [if_neg (by simp)]
      rcases hp with ⟨u, hq⟩ | hq
      · rw [hq]; simp only [not_false_eq_true, true_and, false_and, if_false]; split <;> first | exact .ok | exact .range
      · rw [hq]; exact .range
  · unfold Lib.atoiAll Lib.parseMag
    have e : (45 : UInt8).toNat = 45 := rfl
    simp only [e, or_true, if_true]
    rw [if_neg h0]
    rcases hp with ⟨u, hq⟩ | hq
    · rw [hq]; simp only [not_true_eq_false, false_and, if_false, true_and]; split <;> first | exact .ok | exact .range
    · rw [hq]; exact .range
end Go.Am.Sto
end
section
namespace Go.Am.Txt
open Go Go.Am Go.Proofs Go.Am.Sto
def limN (cs : List AV) : List Nat := cs.map fun a => match a with | .int _ z => z.toNat | _ => 0
theorem limN_u32 (l : List Nat) : limN (u32N l) = l := by
  unfold limN u32N
  rw [List.map_map]
  conv => rhs; rw [← List.map_id l]
  rfl
theorem limbs_u32 {cs : List AV} (h : cs.all isLimb = true) : cs = u32N (limN cs) ∧ ∀ x ∈ limN cs, x < LIM := by
  induction cs with
  | nil => exact ⟨rfl, fun x hx => by cases hx⟩
  | cons a l ih =>
    rw [List.all_cons, Bool.and_eq_true] at h
    obtain ⟨z, rfl, h0, h1⟩ := isLimb_eq h.1
    obtain ⟨e, k⟩ := ih h.2
    have hz : z = .ofNat z.toNat := (Int.toNat_of_nonneg h0).symm
    refine ⟨?_, fun x hx => ?_⟩
    · show AV.int .u32 z :: l = AV.int .u32 (.ofNat z.toNat) :: u32N (limN l)
      rw [← e, ← hz]
    · rcases List.mem_cons.1 hx with rfl | hx
      · show z.toNat < LIM
        unfold LIM; omega
      · exact k x hx
structure Snd (neg : Bool) (ls : List Nat) : Prop where
  len : ls.length ≤ 64
  lt : ∀ x ∈ ls, x < LIM
  top : ∀ x, ls.getLast? = some x → x ≠ 0
  nn : ls = [] → neg = false
theorem snd_is {neg : Bool} {cs : List AV} {n : Nat} (h : sndG neg cs n = true) : cs = u32N (limN cs) ∧ n = (limN cs).length ∧ Snd neg (limN cs) := by
  unfold sndG at h
  rw [Bool.and_eq_true, Bool.and_eq_true] at h
  obtain ⟨h2, h3, h4⟩ := h
  unfold limbsOk at h3
  rw [Bool.and_eq_true, Bool.and_eq_true] at h3
  obtain ⟨_, h5, h6⟩ := h3
  obtain ⟨e, hl⟩ := limbs_u32 h6
  have hn : cs.length = n := Nat.eq_of_beq_eq_true h5
  have hn2 : n = (limN cs).length := by rw [← hn]; simp [limN]
  refine ⟨e, hn2, ⟨by rw [← hn2]; exact Nat.le_of_ble_eq_true h2, hl, fun x hx h0 => ?_, fun he => ?_⟩⟩
  · subst h0
    cases n with
    | zero =>
      rw [List.getLast?_eq_getElem?, ← hn2] at hx
      have := (List.getElem?_eq_some_iff.1 hx).1
      omega
    | succ k =>
      rw [List.getLast?_eq_getElem?, ← hn2, Nat.add_sub_cancel] at hx
      have : cs[k]? = some (.int .u32 (.ofNat 0)) := by
        rw [e, u32N, List.getElem?_map, hx]; rfl
      simp only [this] at h4
      cases h4
  · rw [he] at hn2
    have : n = 0 := hn2
    subst this
    simpa using h4
theorem snd_of {neg : Bool} {ls : List Nat} (h : Snd neg ls) : sndG neg (u32N ls) ls.length = true := by
  unfold sndG
  rw [Bool.and_eq_true, Bool.and_eq_true]
  refine ⟨Nat.ble_eq_true_of_le h.len, ?_, ?_⟩
  · unfold limbsOk
    rw [Nat.ble_eq_true_of_le (by have := h.len; omega), u32N_len]
    rw [show Nat.beq ls.length ls.length = true from Nat.beq_refl _]
    simp only [Bool.true_and]
    rw [List.all_eq_true]
    intro a ha
    obtain ⟨x, hx, rfl⟩ := List.mem_map.1 ha
    exact isLimb_of (Int.natCast_nonneg x) (by have := h.lt x hx; unfold LIM at this; simp only [Int.ofNat_eq_natCast]; omega)
  · cases hn : ls.length with
    | zero =>
      have : ls = [] := List.eq_nil_of_length_eq_zero hn
      simp [h.nn this]
    | succ k =>
      obtain ⟨x, hx⟩ : ∃ x, ls[k]? = some x := ⟨_, List.getElem?_eq_getElem (by omega)⟩
      have hc : (u32N ls)[k]? = some (.int .u32 (.ofNat x)) := by rw [u32N, List.getElem?_map, hx]; rfl
      simp only [hc]
      have := h.top x (by rw [List.getLast?_eq_getElem?, hn, Nat.add_sub_cancel]; exact hx)
      cases x with
      | zero => exact absurd rfl this
      | succ x => rfl
def txN (neg : Bool) (ls : List Nat) : List Nat := match ls.reverse with
  | [] => [48]
  | x :: r => sg neg ++ itoaN (.ofNat x) ++ r.flatMap pad9
theorem txN_snoc (neg : Bool) (l : List Nat) (x : Nat) : txN neg (l ++ [x]) = sg neg ++ itoaN (.ofNat x) ++ lowT l := by
  unfold txN lowT
  rw [List.reverse_append]; rfl
theorem run60 {neg t nl : Bool} {ls : List Nat} (h : Snd neg ls) : b60 sndG hdI tlI rpI H0 Tryz.prog neg (u32N ls) ls.length t nl = some (.str (txN neg ls)) := by
  have hsn := snd_of h
  have hlen := h.len
  rcases List.eq_nil_or_concat ls with rfl | ⟨l, x, rfl⟩
  · refine (start60n sndG hdI tlI rpI H0 t nl neg).trans ?_
    have hp : AV.plain (.lst [] 0 t nl) = true := rfl
    rw [hp, show sndG neg [] 0 = true from hsn]; rfl
  rw [List.concat_eq_append] at *
  have hx := h.lt x (by simp)
  have hir := inR_of hx
  unfold LIM at hx
  have hll : (l ++ [x]).length = l.length + 1 := by simp
  have hpl : ∀ g, AV.plain (.agg [.bool g, .lst (u32N (l ++ [x])) (l ++ [x]).length t nl]) = true := fun g => by
    show (true && (AV.plains (u32N (l ++ [x])) && true)) = true
    rw [u32N_plains]; rfl
  obtain ⟨c, cs, hcs⟩ : ∃ c cs, u32N (l ++ [x]) = c :: cs := by
    cases l with
    | nil => exact ⟨_, _, rfl⟩
    | cons a l => exact ⟨_, _, rfl⟩
  have e1 : W (.ofNat (l.length + 1) - 1) = .ofNat l.length := by
    have : (Int.ofNat (l.length + 1) - 1) = .ofNat l.length := by simp only [Int.ofNat_eq_natCast]; omega
    rw [this]; exact wI (by omega)
  have hget : (u32N (l ++ [x]))[l.length * 1]? = some (.int .u32 (.ofNat x)) := by
    rw [u32N_get]
    simp
  have ew : W (.ofNat x) = .ofNat x := wI (by omega)
  have hlim : (leI 0 (Int.ofNat x) && leI (.ofNat x) 999999999) = true := hir
  have hlt : (!leI (.ofNat l.length) (.ofNat l.length)) = false := by rw [leI_t (Int.le_refl _)]; rfl
  have hlo : ∀ g, lo60 g (.lst (u32N (l ++ [x])) (l ++ [x]).length t nl) = true := fun g => by
    show (AV.under 2 (.bool g) && (AV.under 2 (.lst (u32N (l ++ [x])) (l ++ [x]).length t nl) && true) && true) = true
    have : AV.under 2 (.lst (u32N (l ++ [x])) (l ++ [x]).length t nl) = true := u32N_unders 2 _
    rw [this]; rfl
  have hnn : nonNil (u32N (l ++ [x])) = true := by rw [hcs]; rfl
  have hblt : Nat.blt l.length (l ++ [x]).length = true := Nat.ble_eq_true_of_le (by rw [hll]; exact Nat.le_refl _)
  have hd9 := itoaN_len hir
  have hne := itoaN_ne hir
  obtain ⟨d, ds, hd⟩ : ∃ d ds, itoaN (.ofNat x) = d :: ds := by
    cases hi : itoaN (.ofNat x) with
    | nil => exact absurd hi hne
    | cons d ds => exact ⟨d, ds, rfl⟩
  have htl : tlI (.ofNat x) = ds := by unfold tlI; rw [hd]; rfl
  have hdl : ds.length ≤ 8 := by rw [hd] at hd9; simpa using hd9
  have hlt256 : ∀ c ∈ d :: ds, c < 256 := by rw [← hd]; exact itoaN_lt _
  have e0 : W (.ofNat l.length - 1) = W (.ofNat l.length - 1) := rfl
  cases neg with
  | false =>
    have st : b60 sndG hdI tlI rpI H0 Tryz.prog false (u32N (l ++ [x])) (l ++ [x]).length t nl = L60s Tryz.prog 100 (t60 (.ofNat l.length)) (s60a false (.lst (u32N (l ++ [x])) (l ++ [x]).length t nl)) := by
      have := start60a sndG hdI tlI rpI H0 c cs l.length t nl
      rw [← hcs, ← hll, hpl, hsn, hll, e1, ← hll] at this
      exact this
    rw [st]
    refine (step60a sndG hdI tlI rpI H0 (u32N (l ++ [x])) (l ++ [x]).length l.length 99 t nl false).trans ?_
    rw [hblt, hnn, hget]
    show ifK (leI 0 (W (.ofNat x)) && leI (W (.ofNat x)) 999999999) _ = _
    rw [ew, hlim, hll, e1, hlt, hd_tl hir, htl, hd, Nat.ble_eq_true_of_le (show 0 + (d :: ds).length ≤ BIG by rw [List.length_cons]; unfold BIG; omega), bt_eq, bytesA_single, ← hll, hlo]
    show optK _ (cutN _ 0 (bytesA (d :: ds))) = _
    rw [cutN_self1 (C := bytesA (d :: ds)) (by rw [bytesA_len, Nat.zero_add])]
    show ifK (nonNil (bytesA (d :: ds)) && AV.plains (bytesA (d :: ds))) _ = _
    rw [bytesA_plains, show 0 + ds.length = ds.length from Nat.zero_add _]
    refine (main60 (ls := l ++ [x]) h.lt (by omega) l.length 99 d ds (by omega) (by omega) hlt256 (by rw [List.length_cons]; omega)).trans ?_
    rw [txN_snoc, hd, List.take_left' rfl]; rfl
  | true =>
    have st : b60 sndG hdI tlI rpI H0 Tryz.prog true (u32N (l ++ [x])) (l ++ [x]).length t nl = L60s Tryz.prog 100 (t60 (.ofNat l.length)) (s60c true (.lst (u32N (l ++ [x])) (l ++ [x]).length t nl)) := by
      have := start60c sndG hdI tlI rpI H0 c cs l.length t nl
      rw [← hcs, ← hll, hpl, hsn, hll, e1, ← hll] at this
      exact this
    rw [st]
    refine (step60c sndG hdI tlI rpI H0 (u32N (l ++ [x])) (l ++ [x]).length l.length 99 t nl true).trans ?_
    rw [hblt, hnn, hget]
    show ifK (leI 0 (W (.ofNat x)) && leI (W (.ofNat x)) 999999999) _ = _
    rw [ew, hlim, hll, e1, hlt, hd_tl hir, htl, hd, Nat.ble_eq_true_of_le (show 1 + (d :: ds).length ≤ BIG by rw [List.length_cons]; unfold BIG; omega), bt_eq, bytesA_single, ← hll, hlo]
    show optK _ (cutN _ 0 (bytesA (45 :: d :: ds))) = _
    rw [cutN_self1 (C := bytesA (45 :: d :: ds)) (by rw [bytesA_len]; simp only [List.length_cons]; omega)]
    show ifK (nonNil (bytesA (45 :: d :: ds)) && AV.plains (bytesA (45 :: d :: ds))) _ = _
    rw [bytesA_plains, show 1 + ds.length = (d :: ds).length by rw [List.length_cons]; omega]
    refine (main60 (ls := l ++ [x]) h.lt (by omega) l.length 99 45 (d :: ds) (by omega) (by omega) (fun c hc => by
      rcases List.mem_cons.1 hc with rfl | hc
      · omega
      · exact hlt256 c hc) (by simp only [List.length_cons]; omega)).trans ?_
    rw [txN_snoc, hd, List.take_left' rfl]; rfl
/-! ## Contract -/
section
variable (g : Bool → List AV → Nat → Bool) (tx : Bool → List AV → List Nat)
def F60n : List AV → Option (Bool × AV)
  | [.agg [.bool neg, .lst cs n _ _]] => some (g neg cs n, .str (tx neg cs))
  | _ => none
end
def tx60 (neg : Bool) (cs : List AV) : List Nat := txN neg (limN cs)
theorem w60 : WOk Tryz.prog (GU H0) 60 (F60n sndG tx60) := v_known (D := D60) (m := 100) (loops := 3) (n := 12) hm hn (GU_plain H0) kX60u kY60u fun ar x h => by
  unfold F60n at h
  split at h
  case h_2 => cases h
  rename_i neg cs n t nl
  simp only [Option.some.injEq, Prod.mk.injEq] at h
  obtain ⟨hg, rfl⟩ := h
  obtain ⟨e1, e2, e3⟩ := snd_is hg
  have := run60 (t := t) (nl := nl) e3
  rw [← e1, ← e2] at this
  exact this
end Go.Am.Txt
end
section
namespace Go.Am.Txt
open Go Go.Am Go.Proofs Go.Am.Sto
abbrev digs : List Nat := [48, 49, 50, 51, 52, 53, 54, 55, 56, 57]
/-! ## All digits are trimmed off -/
def okB (cs : List AV) (b : Nat) : Bool := Nat.blt b 256 && (match cs[0 + b * 1]? with | some (.bool u) => u | _ => false)
def D189 : Live := fun i => match i with | 0 => .keep [0, 1] | _ => .all
def t189 (l : List Nat) (p : AV) : T := tOf 22 [(0, .str l), (1, p)]
section
variable (H : HT) (l : List Nat) (cs : List AV) (M : Nat)
def b189 (P : Program) : Option AV := bodyY P (GU H) .none .none 3 5 D189 Res.val? 700 P.funcs[189]? [.str l, .ptrL cs 0] St.empty
def L189 (P : Program) (rounds : Nat) : T → St → Option AV := runLoop P (GU H) .none .none 3 5 D189 Res.val? 700 189 (.keep [0, 1]) 0 rounds
theorem start189 : b189 H l cs Tryz.prog = L189 H Tryz.prog 700 (t189 l (.ptrL cs 0)) St.empty := by kernel_rfl
theorem step189 : L189 H Tryz.prog (M + 1) (t189 l (.ptrL cs 0)) St.empty = byB (!leI (.ofNat l.length) 0)
    (optNat (fun i => optK (fun b => ifK (Nat.blt b 256) (optB (fun u => byB u (optK (fun h => ifK (Nat.ble 0 h && Nat.ble h l.length) (L189 H Tryz.prog M (t189 ((l.drop 0).take (h - 0)) (.ptrL cs 0)) St.empty)) (bound l.length (some (.int .i64 (IntKind.i64.wrap (.ofNat l.length - 1)))))) (some (.str l))) (cs[0 + b * 1]?)))
      (l[i]?)) (IntKind.i64.wrap (.ofNat l.length - 1))) (some (.str l)) := by kernel_rfl
theorem t188 : bodyY Tryz.prog (GU H) .none .none 3 5 noLive Res.val? 3 Tryz.prog.funcs[188]? [.str [], .ptrL cs 0] St.empty = some (.str []) := by kernel_rfl
end
end Go.Am.Txt
end
section
namespace Go.Am.Txt
open Go Go.Am Go.Proofs Go.Am.Sto
theorem main189 (H : HT) (cs : List AV) : ∀ (N : Nat) (l : List Nat), l.all (okB cs) = true → l.length < N → l.length < 1000000 → L189 H Tryz.prog N (t189 l (.ptrL cs 0)) St.empty = some (.str [])
  | 0, l, _, h, _ => absurd h (by omega)
  | N + 1, l, h1, h2, h3 => by
    rw [step189]
    cases hk : l.length with
    | zero =>
      have : l = [] := List.eq_nil_of_length_eq_zero hk
      subst this; rfl
    | succ k =>
      obtain ⟨b, hb⟩ : ∃ b, l[k]? = some b := ⟨_, List.getElem?_eq_getElem (by omega)⟩
      have hok := List.all_eq_true.1 h1 b (List.mem_of_getElem? hb)
      unfold okB at hok
      rw [Bool.and_eq_true] at hok
      obtain ⟨q1, q2⟩ := hok
      have e1 : IntKind.i64.wrap (.ofNat (k + 1) - 1) = .ofNat k := by
        have : (Int.ofNat (k + 1) - 1) = .ofNat k := by simp only [Int.ofNat_eq_natCast]; omega
        rw [this]; exact wI (by omega)
      have e2 : (!leI (.ofNat (k + 1)) 0) = true := rfl
      rw [e1, e2]
      show optK _ (l[k]?) = _
      rw [hb]
      show ifK (Nat.blt b 256) (optB _ (cs[0 + b * 1]?)) = _
      rw [q1]
      split at q2
      · rename_i u hu
        rw [hu, q2]
        show ifK (Nat.ble 0 k && Nat.ble k (k + 1)) (L189 H Tryz.prog N (t189 ((l.drop 0).take (k - 0)) (.ptrL cs 0)) St.empty) = _
        rw [Nat.ble_eq_true_of_le (Nat.zero_le k), Nat.ble_eq_true_of_le (Nat.le_succ k), List.drop_zero, Nat.sub_zero]
        have hlen : (l.take k).length = k := by rw [List.length_take]; omega
        exact main189 H cs N (l.take k) (List.all_eq_true.2 fun x hx => List.all_eq_true.1 h1 x (List.mem_of_mem_take hx)) (by omega) (by omega)
      · cases q2
def F189 : List AV → Option AV
  | [.str l, .ptrL cs 0] => bif l.all (okB cs) && Nat.blt l.length 700 then some (.str []) else none
  | _ => none
theorem k189 (H : HT) : ReadOk Tryz.prog (GU H) 189 F189 := read_knownY (D := D189) (m := 700) (loops := 3) (n := 5) hm hn (GU_plain H) (KnownOk.none _ _) (KnownKOk.none _) fun ar x h => by
  unfold F189 at h
  split at h
  case h_2 => cases h
  rename_i l cs
  cases hc : l.all (okB cs) && Nat.blt l.length 700 with
  | false => rw [hc] at h; cases h
  | true =>
    rw [hc] at h; cases h
    rw [Bool.and_eq_true] at hc
    have hl : l.length < 700 := by simpa using hc.2
    exact ⟨rfl, (start189 H l cs).trans (main189 H cs 700 l hc.1 hl (by omega))⟩
def F188 : List AV → Option AV
  | [.str [], .ptrL _ 0] => some (.str [])
  | _ => none
theorem k188 (H : HT) : ReadOk Tryz.prog (GU H) 188 F188 := read_knownY (D := noLive) (m := 3) (loops := 3) (n := 5) hm hn (GU_plain H) (KnownOk.none _ _) (KnownKOk.none _) fun ar x h => by
  unfold F188 at h
  split at h
  case h_2 => cases h
  cases h
  exact ⟨rfl, t188 H _⟩
def reK {β : Type} (F : List AV → Option (Bool × AV)) (ar : List AV) (s : St) (kr : Res → Option β) : Option β := optK (fun xs => match F xs with | some p => ifK p.1 (kr (.ret p.2 s)) | none => none) (convRL s ar)
theorem reK_le {β : Type} {F : List AV → Option (Bool × AV)} {F' : List AV → Option AV} (hF : ∀ xs x, F xs = some (true, x) → F' xs = some x) (ar : List AV) (s : St) (kr kr' : Res → Option β) (h : ∀ r, Le (kr r) (kr' r)) : Le (reK F ar s kr) (kr' (readX F' ar s)) := by
  unfold reK readX
  cases convRL s ar with
  | none => exact .none _
  | some xs =>
    simp only [optK]
    cases hp : F xs with
    | none => exact .none _
    | some p =>
      obtain ⟨c, x⟩ := p
      simp only
      refine Le.ifK fun hc => ?_
      have hc : c = true := hc
      subst hc
      rw [hF xs x hp]
      exact h _
def G189 : List AV → Option (Bool × AV)
  | [.str l, .ptrL cs 0] => some (l.all (okB cs) && Nat.blt l.length 700, .str [])
  | _ => none
def G188 : List AV → Option (Bool × AV)
  | [.str [], .ptrL _ 0] => some (true, .str [])
  | _ => none
def X147 : Known := (Known.none.add 189 (readX F189)).add 188 (readX F188)
def Y147 {β : Type} : KnownK β := (KnownK.none.add 189 (reK G189)).add 188 (reK G188)
theorem kX147 (H : HT) : KnownOk Tryz.prog (GU H) X147 := ((KnownOk.none _ _).add (k189 H)).add (k188 H)
theorem kY147 {β : Type} : KnownKOk X147 (Y147 : KnownK β) := addY (addY (KnownKOk.none _) 189 (reK_le fun xs x h => by
    unfold G189 at h
    unfold F189
    split at h
    · simp only [Option.some.injEq, Prod.mk.injEq] at h
      obtain ⟨h1, rfl⟩ := h
      rw [h1]; rfl
    · cases h)) 188 (reK_le fun xs x h => by
    unfold G188 at h
    unfold F188
    split at h
    · simp only [Option.some.injEq, Prod.mk.injEq, true_and] at h
      subst h; rfl
    · cases h)
def tabA : List AV := (List.range 256).map fun i => AV.bool (Nat.ble 48 i && Nat.ble i 57)
theorem t147 (H : HT) (a : Nat) (l : List Nat) : bodyY Tryz.prog (GU H) X147 Y147 20 8 noLive Res.freshV? 12 Tryz.prog.funcs[147]? [.str (a :: l), .str digs] St.empty = ifK ((a :: l).all (okB tabA) && Nat.blt (a :: l).length 700) (some (.str [])) := by kernel_rfl
end Go.Am.Txt
end
section
namespace Go.Am.Txt
open Go Go.Am Go.Proofs Go.Am.Sto
section
variable (g : List Nat → Bool) (ga : List Nat → Bool) (av : List Nat → Int)
def F147n : List AV → Option (Bool × AV)
  | [.str l, .str [48, 49, 50, 51, 52, 53, 54, 55, 56, 57]] => some (g l, .str [])
  | _ => none
def F59n : List AV → Option (Bool × AV)
  | [.str l] => some (ga l, .tup [.int .i64 (av l), .nilifc])
  | _ => none
def D102 : Live := fun i => match i with | 0 => .pack [2, 4, 5, 6, 7] | _ => .all
def X102 : Known := ((Known.none.add 147 (wX (F147n g))).add 59 (wX (F59n ga av))).add 137 Sto.cutX
def Y102 {β : Type} : KnownK β := ((KnownK.none.add 147 (wK (F147n g))).add 59 (wK (F59n ga av))).add 137 Sto.cutK
def b102 (H : HT) (P : Program) (l : List Nat) : Option AV := bodyY P (GU H) (X102 g ga av) (Y102 g ga av) 3 8 D102 Res.freshV? 80 P.funcs[102]? [.str l] St.empty
def L102 (H : HT) (P : Program) (rounds : Nat) : T → St → Option AV := runLoop P (GU H) (X102 g ga av) (Y102 g ga av) 3 8 D102 Res.freshV? 80 102 (.pack [2, 4, 5, 6, 7]) 1 rounds
end
def t102 (d : List Nat) (m : Bool) (l : AV) (e : Int) : T := tOf 65 [(2, .ptr 0 0), (4, .str d), (5, .bool m), (6, l), (7, .int .i64 e)]
def s102a : St := ⟨1, Tr.nil.set 0 (rowN 0 47 [.bool false, mt])⟩
def s102b (C : List AV) : St := ⟨2, (Tr.nil.set 0 (rowN 0 47 [.bool false, mt])).set 1 (.row (rowB 1 75 C))⟩
def W32' (z : Int) : Int := IntKind.u32.wrap z
def low9 (e : Nat) : AV := .int .i64 (if (0 : Int) > W (.ofNat e - 9) then 0 else W (.ofNat e - 9))
def chunk (d : List Nat) (e lo : Nat) : List Nat := (d.drop lo).take (e - lo)
def num (b : Bool) (l : List AV) (n : Nat) (t : Bool) : Option AV := some (.tup [.agg [.bool b, .lst l n t t], .bool true])
def endN (b : Bool) (v C : List AV) (k : Nat) : Option AV := byB ((trimA v k).beq 0) (num b [] 0 false) (optK (fun u => ifK (Nat.blt 0 (trimA v k) && AV.flats u) (num b u (trimA v k) false)) (cutN (trimA v k * 1) 0 C))
section
variable (g : List Nat → Bool) (ga : List Nat → Bool) (av : List Nat → Int) (H : HT) (d : List Nat) (m : Bool) (e j M : Nat) (C : List AV)
theorem step102a : L102 g ga av H Tryz.prog (M + 1) (t102 d m mt (.ofNat e)) s102a = byB (!leI (.ofNat e) 0)
    (optK (fun lo => ifK (Nat.ble lo e && Nat.ble e d.length) (ifK (ga (chunk d e lo)) (L102 g ga av H Tryz.prog M (t102 d m (.sl 1 0 1 1 false) (W (.ofNat e - 9))) (s102b [.int .u32 (W32' (av (chunk d e lo)))])))) (bound 0 (some (low9 e))))
    (byB m (num false [] 0 true) (num false [] 0 true)) := by kernel_rfl
theorem step102b : L102 g ga av H Tryz.prog (M + 1) (t102 d m (.sl 1 0 (j + 1) 1 false) (.ofNat e)) (s102b C) = byB (!leI (.ofNat e) 0)
    (optK (fun lo => ifK (Nat.ble lo e && Nat.ble e d.length) (ifK (ga (chunk d e lo)) (ifK (Nat.ble (j + 1 + 1) BIG) (optK (fun old => ifK (newest C.length ((j + 1) * 1)) (optK (fun v => ifK (nonNil v && AV.plains v)
      (L102 g ga av H Tryz.prog M (t102 d m (.sl 1 0 (j + 1 + 1) 1 false) (W (.ofNat e - 9))) (s102b v))) (cutN ((j + 1 + 1) * 1) 0 (old ++ [.int .u32 (W32' (av (chunk d e lo)))])))) (cutN ((j + 1) * 1) 0 C))))) (bound 0 (some (low9 e))))
    (optK (fun v => ifK (cutC (j + 1) v) (byB (!leI (.ofNat (trimA v (j + 1))) 64) (some (.tup [.agg [.bool false, mt], .bool false])) (byB m (endN (!leI (.ofNat (trimA v (j + 1))) 0) v C (j + 1)) (endN false v C (j + 1))))) (cutN (j + 1) 0 C)) := by kernel_rfl
theorem step102z (z : Nat) : L102 g ga av H Tryz.prog (M + 1) (t102 d m (.sl 1 0 (j + 1) 1 false) (.negSucc z)) (s102b C) =
    (optK (fun v => ifK (cutC (j + 1) v) (byB (!leI (.ofNat (trimA v (j + 1))) 64) (some (.tup [.agg [.bool false, mt], .bool false])) (byB m (endN (!leI (.ofNat (trimA v (j + 1))) 0) v C (j + 1)) (endN false v C (j + 1))))) (cutN (j + 1) 0 C)) := by kernel_rfl
theorem nought102 : b102 g ga av H Tryz.prog [48] = ifK (g [48]) (num false [] 0 true) := by kernel_rfl
end
section
variable (g : List Nat → Bool) (ga : List Nat → Bool) (av : List Nat → Int) (H : HT) (l : List Nat)
def rest102 (P : Program) (m : Bool) (d : List Nat) : Option AV := ifK (g d) (byB (!leI (.ofNat d.length) 576) (some (.tup [.agg [.bool false, mt], .bool false])) (L102 g ga av H P 80 (t102 d m mt (.ofNat d.length)) s102a))
def both102 (P : Program) (a : Nat) : Option AV := byB (!eqNs (a :: l) (a :: l)) (rest102 g ga av H P (!eqNs (a :: l) (a :: l)) (a :: l)) (rest102 g ga av H P (!eqNs (a :: l) (a :: l)) (a :: l))
theorem startP : ∀ a, 49 ≤ a → a ≤ 57 → b102 g ga av H Tryz.prog (a :: l) = both102 g ga av H l Tryz.prog a
  | 49, _, _ => by as_aux_lemma => kernel_rfl
  | 50, _, _ => by as_aux_lemma => kernel_rfl
  | 51, _, _ => by as_aux_lemma => kernel_rfl
  | 52, _, _ => by as_aux_lemma => kernel_rfl
  | 53, _, _ => by as_aux_lemma => kernel_rfl
  | 54, _, _ => by as_aux_lemma => kernel_rfl
  | 55, _, _ => by as_aux_lemma => kernel_rfl
  | 56, _, _ => by as_aux_lemma => kernel_rfl
  | 57, _, _ => by as_aux_lemma => kernel_rfl
  | n + 58, _, h => absurd h (by omega)
  | 0, h, _ => absurd h (by omega)
def tl45 (a : Nat) (l : List Nat) : List Nat := ((45 :: a :: l).drop 1).take ((45 :: a :: l).length - 1)
theorem startN : ∀ a, 49 ≤ a → a ≤ 57 → b102 g ga av H Tryz.prog (45 :: a :: l) = ifK (Nat.ble 1 (45 :: a :: l).length && Nat.ble (45 :: a :: l).length (45 :: a :: l).length) (rest102 g ga av H Tryz.prog true (tl45 a l))
  | 49, _, _ => by as_aux_lemma => kernel_rfl
  | 50, _, _ => by as_aux_lemma => kernel_rfl
  | 51, _, _ => by as_aux_lemma => kernel_rfl
  | 52, _, _ => by as_aux_lemma => kernel_rfl
  | 53, _, _ => by as_aux_lemma => kernel_rfl
  | 54, _, _ => by as_aux_lemma => kernel_rfl
  | 55, _, _ => by as_aux_lemma => kernel_rfl
  | 56, _, _ => by as_aux_lemma => kernel_rfl
  | 57, _, _ => by as_aux_lemma => kernel_rfl
  | n + 58, _, h => absurd h (by omega)
  | 0, h, _ => absurd h (by omega)
end
end Go.Am.Txt
end
section
namespace Go.Am.Txt
open Go Go.Am Go.Proofs Go.Am.Sto
/-! ## Digits -/
theorem dec_head : ∀ u : Nat, u ≠ 0 → ∃ a l, Lib.decDigits u = a :: l ∧ 49 ≤ a.toNat ∧ a.toNat ≤ 57 := by
  intro u
  induction u using Nat.strongRecOn with
  | _ u ih =>
    intro h0
    by_cases h : u < 10
    · rw [Lib.decDigits_one h]
      exact ⟨_, [], rfl, by rw [dig_of h]; omega, by rw [dig_of h]; omega⟩
    · rw [Lib.decDigits, dif_neg h]
      obtain ⟨a, l, e, h1, h2⟩ := ih (u / 10) (by omega) (by omega)
      exact ⟨a, l ++ _, by rw [e]; rfl, h1, h2⟩
theorem itoa_head {x : Nat} (h0 : x ≠ 0) : ∃ a l, itoaN (.ofNat x) = a :: l ∧ 49 ≤ a ∧ a ≤ 57 := by
  obtain ⟨a, l, e, h1, h2⟩ := dec_head x h0
  refine ⟨a.toNat, l.map (·.toNat), ?_, h1, h2⟩
  rw [itoaN_eq (a := Int.ofNat x) (Int.natCast_nonneg x), show (Int.ofNat x).toNat = x from rfl, e]; rfl
theorem itoa_digs (x : Nat) : ∀ c ∈ itoaN (.ofNat x), 48 ≤ c ∧ c ≤ 57 := fun c hc => by
  rw [itoaN_eq (a := Int.ofNat x) (Int.natCast_nonneg x)] at hc
  obtain ⟨b, hb, rfl⟩ := List.mem_map.1 hc
  exact decDigits_dig _ b hb
theorem pad9_digs (x : Nat) : ∀ c ∈ pad9 x, 48 ≤ c ∧ c ≤ 57 := fun c hc => by
  unfold pad9 at hc
  rcases List.mem_append.1 hc with hc | hc
  · have := (List.mem_replicate.1 hc).2; omega
  · exact itoa_digs x c hc
theorem pad9_len {x : Nat} (h : x < LIM) : (pad9 x).length = 9 := by
  have := itoaN_len (inR_of h)
  unfold pad9
  simp only [List.length_append, List.length_replicate]; omega
theorem lowT_digs (l : List Nat) : ∀ c ∈ lowT l, 48 ≤ c ∧ c ≤ 57 := fun c hc => by
  unfold lowT at hc
  obtain ⟨x, _, hx⟩ := List.mem_flatMap.1 hc
  exact pad9_digs x c hx
theorem lowT_len {l : List Nat} (h : ∀ x ∈ l, x < LIM) : (lowT l).length = 9 * l.length := by
  unfold lowT
  have key : ∀ m : List Nat, (∀ x ∈ m, x < LIM) → (m.flatMap pad9).length = 9 * m.length := fun m => by
    induction m with
    | nil => intro _; rfl
    | cons x m ih =>
      intro h
      rw [List.flatMap_cons, List.length_append, pad9_len (h x (by simp)), ih (fun y hy => h y (by simp [hy])), List.length_cons]; omega
  rw [key _ (fun x hx => h x (List.mem_reverse.1 hx)), List.length_reverse]
/-! ## What they say -/
def ga59 (l : List Nat) : Bool := Nat.ble l.length 100 && (atoiV l).isSome
def av59n (l : List Nat) : Int := match atoiV l with | some v => v | none => 0
theorem digs_map {l : List Nat} (h : ∀ c ∈ l, 48 ≤ c ∧ c ≤ 57) : ∀ c ∈ l.map UInt8.ofNat, isDig c := fun c hc => by
  obtain ⟨x, hx, rfl⟩ := List.mem_map.1 hc
  have := h x hx
  unfold isDig
  rw [show (UInt8.ofNat x).toNat = x by simp; omega]
  exact this
theorem says_itoa {x : Nat} (h : x < LIM) : ga59 (itoaN (.ofNat x)) = true ∧ av59n (itoaN (.ofNat x)) = .ofNat x := by
  have hb := back_itoa (inR_of h)
  have h9 := itoaN_len (inR_of h)
  unfold LIM at h
  have hp : Lib.atoiAll ((itoaN (.ofNat x)).map UInt8.ofNat) = .ok (x : Int) := by
    refine atoi_pos ?_ (digs_map (itoa_digs x)) ?_ (by omega)
    · rw [hb]; exact decDigits_ne _
    · rw [hb]; exact parse_dig1 h
  have hv : atoiV (itoaN (.ofNat x)) = some (x : Int) := by unfold atoiV; rw [hp]
  unfold ga59 av59n
  rw [hv, Nat.ble_eq_true_of_le (by omega)]
  exact ⟨rfl, rfl⟩
theorem says_pad9 {x : Nat} (h : x < LIM) : ga59 (pad9 x) = true ∧ av59n (pad9 x) = .ofNat x := by
  have hl := pad9_len h
  have hb := back_itoa (inR_of h)
  unfold LIM at h
  have hm : (pad9 x).map UInt8.ofNat = List.replicate (9 - (itoaN (.ofNat x)).length) 48 ++ Lib.decDigits x := by
    unfold pad9
    rw [List.map_append, hb, List.map_replicate]; rfl
  have hp : Lib.atoiAll ((pad9 x).map UInt8.ofNat) = .ok (x : Int) := by
    refine atoi_pos ?_ (digs_map (pad9_digs x)) ?_ (by omega)
    · rw [hm]; intro e; exact decDigits_ne _ (List.append_eq_nil_iff.1 e).2
    · rw [hm, parse_zeros _ _ _ (by rw [Nat.zero_mul]; omega), Nat.zero_mul]; exact parse_dig1 h
  have hv : atoiV (pad9 x) = some (x : Int) := by unfold atoiV; rw [hp]
  unfold ga59 av59n
  rw [hv, Nat.ble_eq_true_of_le (by omega)]
  exact ⟨rfl, rfl⟩
/-! ## What is called -/
def g147 (l : List Nat) : Bool := (match l with | [] => false | _ :: _ => true) && (l.all (okB tabA) && Nat.blt l.length 700)
theorem w147 (H : HT) : WOk Tryz.prog (GU H) 147 (F147n g147) := v_known (D := noLive) (m := 12) (loops := 20) (n := 8) hm hn (GU_plain H) (kX147 H) kY147 fun ar x h => by
  unfold F147n at h
  split at h
  case h_2 => cases h
  rename_i l
  simp only [Option.some.injEq, Prod.mk.injEq] at h
  obtain ⟨hg, rfl⟩ := h
  unfold g147 at hg
  cases l with
  | nil => cases hg
  | cons a l =>
    rw [Bool.and_eq_true] at hg
    exact (t147 H a l).trans (ifK_t hg.2 _)
theorem ok_dig : ∀ k, k < 10 → okB tabA (48 + k) = true := by decide +kernel
theorem g147_of {l : List Nat} (h0 : l ≠ []) (h : ∀ c ∈ l, 48 ≤ c ∧ c ≤ 57) (hl : l.length < 700) : g147 l = true := by
  unfold g147
  cases l with
  | nil => exact absurd rfl h0
  | cons a l =>
    rw [Bool.and_eq_true, Bool.and_eq_true]
    refine ⟨rfl, List.all_eq_true.2 fun c hc => ?_, by simpa using hl⟩
    have hc := h c hc
    have := ok_dig (c - 48) (by omega)
    rwa [show 48 + (c - 48) = c by omega] at this
theorem w59 : WOk Tryz.prog (GU H0) 59 (F59n ga59 av59n) := by
  intro ar s E w vs h1 h2 h3
  have k := k59 ar s E w vs h1 (GU_2 h2) h3
  unfold wX
  rcases Bool.eq_false_or_eq_true (AV.plains ar) with hp | hp
  rotate_left
  · rw [cond_of_false hp]; trivial
  rw [cond_of_true hp]
  unfold F59n
  split
  case h_2 => trivial
  rename_i p hp2
  split at hp2
  case h_2 => cases hp2
  rename_i l
  cases hp2
  cases hg : ga59 l with
  | false => trivial
  | true =>
    unfold ga59 at hg
    rw [Bool.and_eq_true] at hg
    cases hv : atoiV l with
    | none => rw [hv] at hg; cases hg.2
    | some v =>
      unfold av59n
      unfold pureX F59 at k
      simp only [hg.1, cond_true, hv] at k ⊢
      exact k
theorem w137 : ∀ (args : List AV) (s : St) (E : Env) (w : World) (vs : List Value), Rel E s w → GlobOk E (GU H0) w → VRL E args vs → ResOk Tryz.prog E s w 137 vs (Sto.cutX args s) := fun ar s E w vs h1 h2 h3 => k137 ar s E w vs h1 (GU_0 h2) h3
abbrev X102s : Known := X102 g147 ga59 av59n
theorem kX102 : KnownOk Tryz.prog (GU H0) X102s := (((KnownOk.none _ _).add (w147 H0)).add w59).add w137
theorem kY102 {β : Type} : KnownKOk X102s (Y102 g147 ga59 av59n : KnownK β) := addY (addY (addY (KnownKOk.none _) 147 (wK_le _)) 59 (wK_le _)) 137 Sto.cutK_le
end Go.Am.Txt
end
