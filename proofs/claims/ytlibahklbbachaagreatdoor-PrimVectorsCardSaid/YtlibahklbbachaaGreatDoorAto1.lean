/- Numbers and their numerals: what is known of strconv. -/
import Derived.Test.YtlibahklbbachaaGreatDoorSto3
import Derived.Test.YtlibahklbbachaaGreatDoorShf
import Derived.Test.YtlibahklbbachaaGreatDoorLst
import Derived.Test.YtlibahklbbachaaGreatDoorFix
section
set_option autoImplicit false
set_option maxRecDepth 100000
namespace Go.Am
open Go Go.Proofs

/-- New blocks alone. -/
theorem Step.fresh {E : Env} {s : St} {w w' : World} (h0 : Rel E s w) (hfr : ∀ b, b < w.heap.size → w'.heap[b]? = w.heap[b]?) (hos : w'.os = w.os) (htp : w'.tape = w.tape) (hout : w'.output = w.output) (hsz : w.heap.size ≤ w'.heap.size) : Step E s w E s w' := by
  refine ⟨.refl E, fun _ _ => rfl, fun r b base e => .inr ⟨r, base, e⟩, ?_, fun _ _ _ _ _ => rfl, Nat.le_refl _, fun b hb _ _ => hfr b hb, hos, htp, hout, hsz, fun _ _ e => .inl e, fun _ d e => ⟨d, e⟩⟩
  refine ⟨h0.wf, fun r b base e => ⟨(h0.lt r b base e).1, Nat.lt_of_lt_of_le (h0.lt r b base e).2 hsz⟩, h0.obj, fun b o v e => ?_, h0.zap, ?_, ?_, h0.iter, h0.coh, h0.b0,
    fun n d b e eb w1 hw => h0.hid n d b e eb w1 fun k hk => (hw k hk).trans (hfr k (h0.own n k hk).1), fun n k hk => ⟨Nat.lt_of_lt_of_le (h0.own n k hk).1 hsz, (h0.own n k hk).2⟩, h0.hlt⟩
  · have h1 := h0.z b o v e
    have hlt := World.block_lt_of_cell? w _ h1
    rw [World.cell?_of_block (w := w) (hfr b hlt)]; exact h1
  · intro r o b base e el
    rw [hfr b (h0.lt r b base el).2]
    exact h0.row r o b base e el
  · intro r es b base e el
    rw [hfr b (h0.lt r b base el).2]
    exact h0.mapo r es b base e el
end Go.Am
namespace Go.Am.Sto
open Go Go.Am Go.Proofs

/-- with the powers of ten, which stay -/
def G2 : Glob := { at_ := fun g => match g with | 4 => some (Lib.pow10Tab.map (AV.int .u64)) | _ => none, H := H0, siz := fun g => match g with | 4 => some 20 | _ => none }
theorem G2_plain : GlobPlain G2 := fun g cs h => by
  unfold G2 at h
  simp only at h
  split at h
  · cases h; kernel_rfl
  · cases h
theorem G2_0 {E : Env} {w : World} (h : GlobOk E G2 w) : GlobOk E G0 w := ⟨⟨fun _ _ h => (by cases h), fun _ _ h => (by cases h)⟩, h.2⟩
theorem kG2 {X : Known} (h : KnownOk Tryz.prog G0 X) : KnownOk Tryz.prog G2 X := fun f g hf ar s E w vs h1 h2 h3 => h f g hf ar s E w vs h1 (G2_0 h2) h3
theorem ints_vals {E : Env} {k : IntKind} : ∀ {l : List Int} {vs : List Value}, VRL E (l.map (AV.int k)) vs → vs = l.map (Value.int k)
  | [], _, h => by cases h; rfl
  | z :: l, _, h => by
    cases h with
    | cons h1 h2 => cases h1; rw [ints_vals h2]; rfl
theorem tab_of {E : Env} {w : World} {s : St} (h : Rel E s w) (hG : GlobOk E G2 w) : Lib.TabIs Tryz.prog w "internal/strconv.uint64pow10" .u64 Lib.pow10Tab := by
  obtain ⟨vs, h1, h2⟩ := hG.1.1 4 _ rfl
  obtain ⟨_, c, ty, fz, h3, h4⟩ := hG.1.2 4 20 rfl
  have := ints_vals h1
  subst this
  unfold Lib.TabIs World.var?
  rw [show Tryz.prog.globalNamed "internal/strconv.uint64pow10" = some 4 by kernel_rfl]
  simp only [Option.bind_some, h3, Option.some.injEq]
  have hlen : (Lib.pow10Tab.map fun z => Value.int .u64 z).length = 20 := by simp [Lib.pow10Tab]
  apply Array.ext_getElem?
  intro i
  by_cases hi : i < 20
  · have h5 := h.z 4 i _ (h2 i _ (List.getElem?_eq_getElem (by rw [hlen]; exact hi)))
    unfold World.cell? at h5
    simp only [h3] at h5
    rw [show (c[i]? : Option Value) = _ from h5, List.getElem?_toArray, List.getElem?_eq_getElem (by rw [hlen]; exact hi)]
  · rw [Array.getElem?_eq_none (by omega), Array.getElem?_eq_none (by simp only [List.size_toArray]; omega)]

/-! ## Itoa, Atoi -/
/-- the numeral, as the walk has it -/
def itoaN (n : Int) : List Nat := (Lib.itoa n).map (·.toNat)
def F126 : List AV → Option AV
  | [.int .i64 n] => bif leI 0 n && leI n 999999999 then some (.str (itoaN n)) else none
  | _ => none
theorem k126 : ∀ (args : List AV) (s : St) (E : Env) (w : World) (vs : List Value), Rel E s w → GlobOk E G2 w → VRL E args vs → ResOk Tryz.prog E s w 126 vs (pureX F126 args s) := by
  intro args s E w vs h hG ha
  unfold pureX
  split
  case h_2 => trivial
  rename_i x hx
  unfold F126 at hx
  split at hx
  case h_2 => cases hx
  rename_i n
  cases hc : leI 0 n && leI n 999999999 with
  | false => rw [hc] at hx; cases hx
  | true =>
    rw [hc] at hx
    cases hx
    rw [Bool.and_eq_true, leI_iff, leI_iff, decide_eq_true_iff, decide_eq_true_iff] at hc
    cases ha with
    | cons h1 h2 =>
      cases h1; cases h2
      refine .inl ⟨⟨Tryz.f126, Tryz.func126, rfl, hn 126 _ Tryz.func126⟩, (Tryz.strconv_Itoa n (by omega) (by omega) w (tab_of h hG)).mono fun e w' ⟨he, k, os, hw⟩ => ⟨_, E, he, ?_, ?_⟩⟩
      · subst hw
        exact Step.fresh h (fun b hb => by show (w.heap ++ os)[b]? = _; rw [Array.getElem?_append_left hb]) rfl rfl rfl (by show w.heap.size ≤ (w.heap ++ os).size; rw [Array.size_append]; omega)
      · have := VR.str (E := E) ⟨(Lib.itoa n).toArray⟩
        rwa [show (ByteArray.mk (Lib.itoa n).toArray).data.toList = Lib.itoa n from rfl] at this
def atoiV (l : List Nat) : Option Int := match Lib.atoiAll (l.map UInt8.ofNat) with | .ok v => some v | _ => none
def F59 : List AV → Option AV
  | [.str l] => bif Nat.ble l.length 100 then match atoiV l with | some v => some (.tup [.int .i64 v, .nilifc]) | none => none else none
  | _ => none
theorem bytes_back (l : List UInt8) : (l.map (·.toNat)).map UInt8.ofNat = l := by
  rw [List.map_map]
  conv => rhs; rw [← List.map_id l]
  apply List.map_congr_left
  intro x _
  simp
theorem k59 : ∀ (args : List AV) (s : St) (E : Env) (w : World) (vs : List Value), Rel E s w → GlobOk E G2 w → VRL E args vs → ResOk Tryz.prog E s w 59 vs (pureX F59 args s) := by
  intro args s E w vs h hG ha
  unfold pureX
  split
  case h_2 => trivial
  rename_i x hx
  unfold F59 at hx
  split at hx
  case h_2 => cases hx
  rename_i l
  cases hc : Nat.ble l.length 100 with
  | false => rw [hc] at hx; cases hx
  | true =>
    rw [hc] at hx
    simp only [cond_true] at hx
    split at hx
    case h_2 => cases hx
    rename_i v hv
    cases hx
    cases ha with
    | cons h1 h2 =>
      cases h2
      cases h1 with
      | str sb =>
        unfold atoiV at hv
        rw [bytes_back] at hv
        split at hv
        case h_2 => cases hv
        rename_i v' hv'
        cases hv
        have hl := Nat.le_of_ble_eq_true hc
        simp only [List.length_map, Array.length_toList] at hl
        refine .inl ⟨⟨Tryz.f59, Tryz.func59, rfl, hn 59 _ Tryz.func59⟩, (Tryz.strconv_Atoi_ok sb (by have : sb.size = sb.data.size := rfl; omega) _ hv' w).mono fun e w' ⟨he, hw⟩ => ⟨_, E, he, ?_, .tup (.cons (.int _ _) (.cons .nilifc .nil))⟩⟩
        rcases hw with rfl | ⟨t, rfl⟩
        · exact .refl h
        · exact Step.fresh h (fun b hb => Lib.bytesWorld_at_old w 5 t b hb) rfl rfl rfl (by rw [Lib.bytesWorld_size]; omega)
end Go.Am.Sto
end
section
set_option autoImplicit false
set_option maxRecDepth 100000
namespace Go.Am.Sto
open Go Go.Am Go.Proofs

abbrev intA (neg : Bool) (l : List Int) : AV := .agg [.bool neg, .lst (l.map (AV.int .u32)) l.length false l.isEmpty]
def numR (d : Hid) (neg : Bool) (l : List Int) (e : Int) : Option R := some (.tup [intA neg l, .int .i64 e], d)
abbrev W64 (z : Int) : Int := IntKind.u64.wrap z
/-- the limbs of a uint64, by the code -/
def limbT (d : Hid) (neg : Bool) (u : Int) : Option R :=
  byB (!leI u 0) (byB (!leI (W64 (u.tdiv 1000000000)) 0) (byB (!leI (W64 ((W64 (u.tdiv 1000000000)).tdiv 1000000000)) 0) none
    (numR d neg [IntKind.u32.wrap (u.tmod 1000000000), IntKind.u32.wrap ((W64 (u.tdiv 1000000000)).tmod 1000000000)] 0)) (numR d neg [IntKind.u32.wrap (u.tmod 1000000000)] 0)) (numR d neg [] 0)
theorem t114 (d : Hid) (z : Int) : bodyY Tryz.prog G2 .none .none 3 12 noLive Res.meth? 3 Tryz.prog.funcs[114]? [.hptr 0, .agg [.int .i64 4, .int .i64 z]] (St.one d) =
    byB (!leI z (-1000000000000000000)) (byB (!leI 1000000000000000000 z) (byB (!leI 0 z) (limbT d (!leI 0 z) (W64 (0 - W64 z))) (limbT d (!leI 0 z) (W64 z))) (numR d false [] 10)) (numR d false [] 10) := by kernel_rfl

/-- the limbs of a number -/
def limbs (u : Nat) : List Int := if u = 0 then [] else if u < 1000000000 then [(u : Int)] else [((u % 1000000000 : Nat) : Int), ((u / 1000000000 : Nat) : Int)]
theorem w64 {x : Int} (h0 : 0 ≤ x) (h1 : x < 18446744073709551616) : W64 x = x := by
  have e : IntKind.u64.wrap x = x % 18446744073709551616 := by
    unfold IntKind.wrap
    simp [IntKind.signed, IntKind.bits]
  unfold W64
  rw [e]; omega
theorem w64n {x : Int} (h0 : x < 0) (h1 : -1000000000000000000 < x) : W64 (0 - W64 x) = -x := by
  have e : ∀ x : Int, IntKind.u64.wrap x = x % 18446744073709551616 := fun x => by
    unfold IntKind.wrap
    simp [IntKind.signed, IntKind.bits]
  unfold W64
  rw [e, e]; omega
theorem w32 {x : Int} (h0 : 0 ≤ x) (h1 : x < 4294967296) : IntKind.u32.wrap x = x := by
  have e : IntKind.u32.wrap x = x % 4294967296 := by
    unfold IntKind.wrap
    simp [IntKind.signed, IntKind.bits]
  rw [e]; omega
theorem limbT_eq (d : Hid) (neg : Bool) (u : Nat) (h : u < 1000000000000000000) : limbT d neg (u : Int) = numR d neg (limbs u) 0 := by
  have d1 : (u : Int).tdiv 1000000000 = ((u / 1000000000 : Nat) : Int) := by rw [Int.tdiv_eq_ediv_of_nonneg (by omega)]; omega
  have m1 : (u : Int).tmod 1000000000 = ((u % 1000000000 : Nat) : Int) := by rw [Int.tmod_eq_emod_of_nonneg (by omega)]; omega
  have d2 : ((u / 1000000000 : Nat) : Int).tdiv 1000000000 = ((u / 1000000000 / 1000000000 : Nat) : Int) := by rw [Int.tdiv_eq_ediv_of_nonneg (by omega)]; omega
  have m2 : ((u / 1000000000 : Nat) : Int).tmod 1000000000 = ((u / 1000000000 % 1000000000 : Nat) : Int) := by rw [Int.tmod_eq_emod_of_nonneg (by omega)]; omega
  unfold limbT limbs
  rw [d1, m1, w64 (x := ((u / 1000000000 : Nat) : Int)) (by omega) (by omega), d2, m2, w64 (x := ((u / 1000000000 / 1000000000 : Nat) : Int)) (by omega) (by omega), w32 (by omega) (by omega), w32 (by omega) (by omega)]
  by_cases h0 : u = 0
  · subst h0; rfl
  · rw [leI_f (show (0 : Int) < (u : Int) by omega), if_neg h0]
    by_cases h1 : u < 1000000000
    · rw [if_pos h1, show u / 1000000000 = 0 by omega, show u % 1000000000 = u by omega]; rfl
    · rw [if_neg h1, leI_f (show (0 : Int) < ((u / 1000000000 : Nat) : Int) by omega), show u / 1000000000 / 1000000000 = 0 by omega, show u / 1000000000 % 1000000000 = u / 1000000000 by omega]; rfl

/-- the number of a value -/
def small (z : Int) : Bool := leI (-999999999999999999) z && leI z 999999999999999999
def F114 (d : Hid) : List AV → Option (Bool × AV × Hid)
  | [.hptr 0, .agg [.int .i64 4, .int .i64 z]] => some (small z, .tup [intA (decide (z < 0)) (limbs z.natAbs), .int .i64 0], d)
  | _ => none
theorem k114 : MethOk Tryz.prog G2 114 F114 := meth_known (D := noLive) (m := 3) (loops := 3) (n := 12) hm hn G2_plain (KnownOk.none _ _) (KnownKOk.none _) fun d ar x d' hF => by
  unfold F114 at hF
  split at hF
  case h_2 => cases hF
  rename_i z
  simp only [Option.some.injEq, Prod.mk.injEq] at hF
  obtain ⟨h1, rfl, rfl⟩ := hF
  unfold small at h1
  rw [Bool.and_eq_true, leI_iff, leI_iff, decide_eq_true_iff, decide_eq_true_iff] at h1
  refine (t114 d z).trans ?_
  rw [leI_f (show (-1000000000000000000 : Int) < z by omega), leI_f (show z < 1000000000000000000 by omega)]
  by_cases hz : 0 ≤ z
  · rw [leI_t hz, w64 hz (by omega), show z = ((z.natAbs : Nat) : Int) by omega]
    refine (limbT_eq d false z.natAbs (by omega)).trans ?_
    rw [decide_eq_false (show ¬ ((z.natAbs : Nat) : Int) < 0 by omega)]; rfl
  · rw [leI_f (show z < 0 by omega), w64n (by omega) (by omega), show -z = ((z.natAbs : Nat) : Int) by omega]
    refine (limbT_eq d true z.natAbs (by omega)).trans ?_
    rw [decide_eq_true (show z < 0 by omega)]; rfl
end Go.Am.Sto
end
section
set_option autoImplicit false
set_option maxRecDepth 100000
namespace Go.Am.Sto
open Go Go.Am Go.Proofs

/-! ## Sound -/
def sndN (neg : Bool) : List AV → Nat → Bool
  | [], 0 => !neg
  | [.int .u32 a], 1 => !eqI a 0 && !leI 1000000000 a
  | [.int .u32 a, .int .u32 b], 2 => !eqI b 0 && (!leI 1000000000 a && !leI 1000000000 b)
  | _, _ => false
def F35 : List AV → Option AV
  | [.agg [.bool neg, .lst cs n _ nl]] => bif sndN neg cs n && (bif nonNil cs then !nl else true) then some (.bool true) else none
  | _ => none
theorem t35a (neg tt nl : Bool) : bodyK Tryz.prog G2 .none 10 12 noLive Res.val? 10 Tryz.prog.funcs[35]? [.agg [.bool neg, .lst [] 0 tt nl]] St.empty = byB neg (some (.bool false)) (some (.bool true)) := by kernel_rfl
theorem t35b (neg tt : Bool) (a : Int) : bodyK Tryz.prog G2 .none 10 12 noLive Res.val? 10 Tryz.prog.funcs[35]? [.agg [.bool neg, .lst [.int .u32 a] 1 tt false]] St.empty =
    byB (!eqI a 0) (byB (leI 1000000000 a) (some (.bool false)) (some (.bool true))) (some (.bool false)) := by kernel_rfl
theorem t35c (neg tt : Bool) (a b : Int) : bodyK Tryz.prog G2 .none 10 12 noLive Res.val? 10 Tryz.prog.funcs[35]? [.agg [.bool neg, .lst [.int .u32 a, .int .u32 b] 2 tt false]] St.empty =
    byB (!eqI b 0) (byB (leI 1000000000 a) (some (.bool false)) (byB (leI 1000000000 b) (some (.bool false)) (some (.bool true)))) (some (.bool false)) := by kernel_rfl
theorem k35 : ReadOk Tryz.prog G2 35 F35 := read_known (D := noLive) (m := 10) (loops := 10) (n := 12) hm hn G2_plain (KnownOk.none _ _) fun ar x hF => by
  unfold F35 at hF
  split at hF
  case h_2 => cases hF
  rename_i neg cs n tt nl
  cases hc : sndN neg cs n && (bif nonNil cs then !nl else true) with
  | false => rw [hc] at hF; cases hF
  | true =>
    rw [hc] at hF
    cases hF
    rw [Bool.and_eq_true] at hc
    obtain ⟨h1, h2⟩ := hc
    refine ⟨rfl, ?_⟩
    unfold sndN at h1
    split at h1
    · rw [t35a]; cases neg with
      | false => rfl
      | true => cases h1
    · cases nl with
      | true => cases h2
      | false =>
        rw [Bool.and_eq_true] at h1
        rw [t35b, h1.1, show leI 1000000000 _ = false by simpa using h1.2]
    · cases nl with
      | true => cases h2
      | false =>
        rw [Bool.and_eq_true, Bool.and_eq_true] at h1
        rw [t35c, h1.1, show leI 1000000000 _ = false by simpa using h1.2.1, show leI 1000000000 _ = false by simpa using h1.2.2]
    · cases h1

/-! ## Noughts -/
def F128 : List AV → Option AV
  | [.str [48], .int .i64 (.ofNat k)] => bif Nat.ble k 8 then some (.str (List.replicate k 48)) else none
  | _ => none
abbrev run128 (P : Program) (k : Int) : Option AV := bodyK P G0 XN 10 12 noLive Res.val? 10 P.funcs[128]? [.str [48], .int .i64 k] St.empty
theorem r0 : run128 Tryz.prog 0 = some (.str (List.replicate 0 48)) := by kernel_rfl
theorem r1 : run128 Tryz.prog 1 = some (.str (List.replicate 1 48)) := by kernel_rfl
theorem r2 : run128 Tryz.prog 2 = some (.str (List.replicate 2 48)) := by kernel_rfl
theorem r3 : run128 Tryz.prog 3 = some (.str (List.replicate 3 48)) := by kernel_rfl
theorem r4 : run128 Tryz.prog 4 = some (.str (List.replicate 4 48)) := by kernel_rfl
theorem r5 : run128 Tryz.prog 5 = some (.str (List.replicate 5 48)) := by kernel_rfl
theorem r6 : run128 Tryz.prog 6 = some (.str (List.replicate 6 48)) := by kernel_rfl
theorem r7 : run128 Tryz.prog 7 = some (.str (List.replicate 7 48)) := by kernel_rfl
theorem r8 : run128 Tryz.prog 8 = some (.str (List.replicate 8 48)) := by kernel_rfl
theorem k128 : ∀ (args : List AV) (s : St) (E : Env) (w : World) (vs : List Value), Rel E s w → GlobOk E G0 w → VRL E args vs → ResOk Tryz.prog E s w 128 vs (pureX F128 args s) := flat_known (D := noLive) (m := 10) (loops := 10) (n := 12) hm hn G0_plain kN fun ar x hF => by
  unfold F128 at hF
  split at hF
  case h_2 => cases hF
  rename_i k
  match k, hF with
  | 0, hF => cases hF; exact ⟨rfl, rfl, r0⟩
  | 1, hF => cases hF; exact ⟨rfl, rfl, r1⟩
  | 2, hF => cases hF; exact ⟨rfl, rfl, r2⟩
  | 3, hF => cases hF; exact ⟨rfl, rfl, r3⟩
  | 4, hF => cases hF; exact ⟨rfl, rfl, r4⟩
  | 5, hF => cases hF; exact ⟨rfl, rfl, r5⟩
  | 6, hF => cases hF; exact ⟨rfl, rfl, r6⟩
  | 7, hF => cases hF; exact ⟨rfl, rfl, r7⟩
  | 8, hF => cases hF; exact ⟨rfl, rfl, r8⟩
  | k + 9, hF => have hF : (none : Option AV) = some x := hF; cases hF
end Go.Am.Sto
end
