import Derived.Test.YtlibahklbbachaaGreatDoorRf10
import Derived.Test.YtlibahklbbachaaGreatDoorRf22
import Derived.Test.YtlibahklbbachaaGreatDoorRf15
import Derived.Test.YtlibahklbbachaaGreatDoorRf20
set_option autoImplicit false
set_option maxRecDepth 100000
set_option linter.unusedSimpArgs false
set_option linter.unusedVariables false
set_option maxHeartbeats 8000000
section
namespace Go.Am.Sto
open Go Go.Am Go.Proofs
def D137 : Live := fun i => match i with | 0 => .keep [0] | _ => .all
def L137 (P : Program) (rounds : Nat) : T → St → Option Res := runLoop P G0 .none .none 0 3 D137 some 70 137 (.keep [0]) 0 rounds
def t137 (a : AV) : T := tOf 21 [(0, a)]
def at1 (s : St) (r off : Nat) : Option AV := match rowAt s r with | some o => o.vals[off]? | none => none
section
variable (s : St) (r off N n : Nat) (t : Bool)
theorem start137 : bodyY Tryz.prog G0 .none (.none : KnownK Res) 0 3 D137 some 70 Tryz.prog.funcs[137]? [.sl r off n 1 t] s = L137 Tryz.prog 70 (t137 (.sl r off n 1 t)) s := by kernel_rfl
theorem end137 : L137 Tryz.prog (N + 1) (t137 (.sl r off 0 1 t)) s = some (.ret (.sl r off 0 1 t) s) := by kernel_rfl
def stepP (P : Program) (k : Nat) : Prop := L137 P (N + 1) (t137 (.sl r off (k + 1) 1 t)) s = opt1 .u32 (fun z => byB (eqI z 0) (L137 P N (t137 (.sl r off k 1 false)) s) (some (.ret (.sl r off (k + 1) 1 t) s))) (at1 s r (off + k))
theorem step137 : ∀ k, k < 66 → stepP s r off N t Tryz.prog k
 | 0, _ => by unfold stepP; cases t <;> as_aux_lemma => kernel_rfl
 | 1, _ => by unfold stepP; cases t <;> as_aux_lemma => kernel_rfl
 | 2, _ => by unfold stepP; cases t <;> as_aux_lemma => kernel_rfl
 | 3, _ => by unfold stepP; cases t <;> as_aux_lemma => kernel_rfl
 | 4, _ => by unfold stepP; cases t <;> as_aux_lemma => kernel_rfl
 | 5, _ => by unfold stepP; cases t <;> as_aux_lemma => kernel_rfl
 | 6, _ => by unfold stepP; cases t <;> as_aux_lemma => kernel_rfl
 | 7, _ => by unfold stepP; cases t <;> as_aux_lemma => kernel_rfl
 | 8, _ => by unfold stepP; cases t <;> as_aux_lemma => kernel_rfl
 | 9, _ => by unfold stepP; cases t <;> as_aux_lemma => kernel_rfl
 | 10, _ => by unfold stepP; cases t <;> as_aux_lemma => kernel_rfl
 | 11, _ => by unfold stepP; cases t <;> as_aux_lemma => kernel_rfl
 | 12, _ => by unfold stepP; cases t <;> as_aux_lemma => kernel_rfl
 | 13, _ => by unfold stepP; cases t <;> as_aux_lemma => kernel_rfl
 | 14, _ => by unfold stepP; cases t <;> as_aux_lemma => kernel_rfl
 | 15, _ => by unfold stepP; cases t <;> as_aux_lemma => kernel_rfl
 | 16, _ => by unfold stepP; cases t <;> as_aux_lemma => kernel_rfl
 | 17, _ => by unfold stepP; cases t <;> as_aux_lemma => kernel_rfl
 | 18, _ => by unfold stepP; cases t <;> as_aux_lemma => kernel_rfl
 | 19, _ => by unfold stepP; cases t <;> as_aux_lemma => kernel_rfl
 | 20, _ => by unfold stepP; cases t <;> as_aux_lemma => kernel_rfl
 | 21, _ => by unfold stepP; cases t <;> as_aux_lemma => kernel_rfl
 | 22, _ => by unfold stepP; cases t <;> as_aux_lemma => kernel_rfl
 | 23, _ => by unfold stepP; cases t <;> as_aux_lemma => kernel_rfl
 | 24, _ => by unfold stepP; cases t <;> as_aux_lemma => kernel_rfl
 | 25, _ => by unfold stepP; cases t <;> as_aux_lemma => kernel_rfl
 | 26, _ => by unfold stepP; cases t <;> as_aux_lemma => kernel_rfl
 | 27, _ => by unfold stepP; cases t <;> as_aux_lemma => kernel_rfl
 | 28, _ => by unfold stepP; cases t <;> as_aux_lemma => kernel_rfl
 | 29, _ => by unfold stepP; cases t <;> as_aux_lemma => kernel_rfl
 | 30, _ => by unfold stepP; cases t <;> as_aux_lemma => kernel_rfl
 | 31, _ => by unfold stepP; cases t <;> as_aux_lemma => kernel_rfl
 | 32, _ => by unfold stepP; cases t <;> as_aux_lemma => kernel_rfl
 | 33, _ => by unfold stepP; cases t <;> as_aux_lemma => kernel_rfl
 | 34, _ => by unfold stepP; cases t <;> as_aux_lemma => kernel_rfl
 | 35, _ => by unfold stepP; cases t <;> as_aux_lemma => kernel_rfl
 | 36, _ => by unfold stepP; cases t <;> as_aux_lemma => kernel_rfl
 | 37, _ => by unfold stepP; cases t <;> as_aux_lemma => kernel_rfl
 | 38, _ => by unfold stepP; cases t <;> as_aux_lemma => kernel_rfl
 | 39, _ => by unfold stepP; cases t <;> as_aux_lemma => kernel_rfl
 | 40, _ => by unfold stepP; cases t <;> as_aux_lemma => kernel_rfl
 | 41, _ => by unfold stepP; cases t <;> as_aux_lemma => kernel_rfl
 | 42, _ => by unfold stepP; cases t <;> as_aux_lemma => kernel_rfl
 | 43, _ => by unfold stepP; cases t <;> as_aux_lemma => kernel_rfl
 | 44, _ => by unfold stepP; cases t <;> as_aux_lemma => kernel_rfl
 | 45, _ => by unfold stepP; cases t <;> as_aux_lemma => kernel_rfl
 | 46, _ => by unfold stepP; cases t <;> as_aux_lemma => kernel_rfl
 | 47, _ => by unfold stepP; cases t <;> as_aux_lemma => kernel_rfl
 | 48, _ => by unfold stepP; cases t <;> as_aux_lemma => kernel_rfl
 | 49, _ => by unfold stepP; cases t <;> as_aux_lemma => kernel_rfl
 | 50, _ => by unfold stepP; cases t <;> as_aux_lemma => kernel_rfl
 | 51, _ => by unfold stepP; cases t <;> as_aux_lemma => kernel_rfl
 | 52, _ => by unfold stepP; cases t <;> as_aux_lemma => kernel_rfl
 | 53, _ => by unfold stepP; cases t <;> as_aux_lemma => kernel_rfl
 | 54, _ => by unfold stepP; cases t <;> as_aux_lemma => kernel_rfl
 | 55, _ => by unfold stepP; cases t <;> as_aux_lemma => kernel_rfl
 | 56, _ => by unfold stepP; cases t <;> as_aux_lemma => kernel_rfl
 | 57, _ => by unfold stepP; cases t <;> as_aux_lemma => kernel_rfl
 | 58, _ => by unfold stepP; cases t <;> as_aux_lemma => kernel_rfl
 | 59, _ => by unfold stepP; cases t <;> as_aux_lemma => kernel_rfl
 | 60, _ => by unfold stepP; cases t <;> as_aux_lemma => kernel_rfl
 | 61, _ => by unfold stepP; cases t <;> as_aux_lemma => kernel_rfl
 | 62, _ => by unfold stepP; cases t <;> as_aux_lemma => kernel_rfl
 | 63, _ => by unfold stepP; cases t <;> as_aux_lemma => kernel_rfl
 | 64, _ => by unfold stepP; cases t <;> as_aux_lemma => kernel_rfl
 | 65, _ => by unfold stepP; cases t <;> as_aux_lemma => kernel_rfl
 | n + 66, h => absurd h (by omega)
end
end Go.Am.Sto
end
section
namespace Go.Am.Sto
open Go Go.Am Go.Proofs
def trimA (cs : List AV) : Nat → Nat
 | 0 => 0
 | k + 1 => match cs[k]? with
  | some (.int .u32 z) => bif eqI z 0 then trimA cs k else k + 1
  | _ => 0
def isU (a : AV) : Bool := match a with | .int .u32 _ => true | _ => false
theorem trimA_le (cs : List AV) : ∀ k, trimA cs k ≤ k
 | 0 => Nat.le_refl _
 | k + 1 => by
  unfold trimA
  split
  ·rename_i z _
   cases eqI z 0 with
   | true => exact Nat.le_succ_of_le (trimA_le cs k)
   | false => exact Nat.le_refl _
  ·omega
theorem main137 {s : St} {r off : Nat} {cs : List AV} : ∀ (k : Nat) (t : Bool) (N : Nat), k < 66 → k < N → (∀ i, i < k → at1 s r (off + i) = cs[i]? ∧ ∃ z, cs[i]? = some (.int .u32 z)) →
  L137 Tryz.prog N (t137 (.sl r off k 1 t)) s = some (.ret (.sl r off (trimA cs k) 1 (t && Nat.beq (trimA cs k) k)) s)
 | 0, t, N, h1, h2, h => by
  obtain ⟨N, rfl⟩ : ∃ M, N = M + 1 := ⟨N - 1, by omega⟩
  rw [end137]
  show _ = some (Res.ret (.sl r off 0 1 (t && true)) s)
  rw [Bool.and_true]
 | k + 1, t, N, h1, h2, h => by
  obtain ⟨N, rfl⟩ : ∃ M, N = M + 1 := ⟨N - 1, by omega⟩
  have hs := step137 s r off N t k (by omega)
  unfold stepP at hs
  obtain ⟨e1, z, e2⟩ := h k (by omega)
  rw [hs, e1, e2]
  show byB (eqI z 0) _ _ = _
  have ht : trimA cs (k + 1) = bif eqI z 0 then trimA cs k else k + 1 := by simp only [trimA, e2]
  rw [ht]
  cases eqI z 0 with
  | true =>
   refine (main137 k false N (by omega) (by omega) fun i hi => h i (by omega)).trans ?_
   show some (Res.ret (.sl r off (trimA cs k) 1 (false && _)) s) = some (Res.ret (.sl r off (trimA cs k) 1 (t && Nat.beq (trimA cs k) (k + 1))) s)
   have : Nat.beq (trimA cs k) (k + 1) = false := by
    cases hb : Nat.beq (trimA cs k) (k + 1) with
    | false => rfl
    | true => have := Nat.eq_of_beq_eq_true hb; have := trimA_le cs k; omega
   rw [this, Bool.and_false, Bool.false_and]
  | false =>
   show some (Res.ret (.sl r off (k + 1) 1 t) s) = some (Res.ret (.sl r off (k + 1) 1 (t && Nat.beq (k + 1) (k + 1))) s)
   rw [Nat.beq_refl, Bool.and_true]
def cutC (n : Nat) (cs : List AV) : Bool := Nat.ble n 65 && cs.all isU
def cutX (args : List AV) (s : St) : Res := match args with
 | [.sl r off n 1 t] => match rowAt s r with
  | some o => match cutN n off o.vals with
   | some cs => bif cutC n cs then .ret (.sl r off (trimA cs n) 1 (t && Nat.beq (trimA cs n) n)) s else .fail
   | none => .fail
  | none => .fail
 | [.lst [] 0 t nl] => .ret (.lst [] 0 t nl) s
 | _ => .fail
def cutK {β : Type} (args : List AV) (s : St) (kr : Res → Option β) : Option β := match args with
 | [.sl r off n 1 t] => match rowAt s r with
  | some o => optK (fun cs => ifK (cutC n cs) (kr (.ret (.sl r off (trimA cs n) 1 (t && Nat.beq (trimA cs n) n)) s))) (cutN n off o.vals)
  | none => none
 | [.lst [] 0 t nl] => kr (.ret (.lst [] 0 t nl) s)
 | _ => none
theorem cutK_le {β : Type} (args : List AV) (s : St) (kr kr' : Res → Option β) (h : ∀ r, Le (kr r) (kr' r)) : Le (cutK args s kr) (kr' (cutX args s)) := by
 intro x hx
 unfold cutK at hx
 split at hx
 ·rename_i r off n t
  split at hx
  ·rename_i o ho
   obtain ⟨cs, hc, hx⟩ := optK_some hx
   obtain ⟨hb, hx⟩ := ifK_some hx
   have e : cutX [.sl r off n 1 t] s = .ret (.sl r off (trimA cs n) 1 (t && Nat.beq (trimA cs n) n)) s := by simp only [cutX, ho, hc, hb, cond_true]
   rw [e]; exact h _ x hx
  ·cases hx
 ·exact h _ x hx
 ·cases hx
theorem end137l (s : St) (t nl : Bool) : bodyY Tryz.prog G0 .none (.none : KnownK Res) 0 3 D137 some 70 Tryz.prog.funcs[137]? [.lst [] 0 t nl] s = some (.ret (.lst [] 0 t nl) s) := by kernel_rfl
theorem k137 : ∀ (args : List AV) (s : St) (E : Env) (w : World) (vs : List Value), Rel E s w → GlobOk E G0 w → VRL E args vs → ResOk Tryz.prog E s w 137 vs (cutX args s) := by
 intro args s E w vs h hG ha
 have hb := bodyD_ok (D := D137) hm hn (callN_ok hm hn (KnownOk.none Tryz.prog G0) 0 3) 70 137 args s E w vs h hG ha
 unfold cutX
 split
 ·rename_i r off n t
  split
  ·rename_i o ho
   split
   ·rename_i cs hc
    cases hk : cutC n cs with
    | false => trivial
    | true =>
     unfold cutC at hk
     rw [Bool.and_eq_true] at hk
     have hn65 : n ≤ 65 := Nat.le_of_ble_eq_true hk.1
     have hlen := cutN_len hc
     have hm1 := main137 (s := s) (r := r) (off := off) (cs := cs) n t 70 (by omega) (by omega) fun i hi => by
      have hget : cs[i]? = o.vals[off + i]? := cutN_get hc i hi
      refine ⟨by unfold at1; rw [ho]; exact hget.symm, ?_⟩
      have hmem := List.all_eq_true.1 hk.2 cs[i] (List.getElem_mem (by omega))
      rw [List.getElem?_eq_getElem (by omega)]
      unfold isU at hmem
      split at hmem
      ·rename_i z hz; exact ⟨z, by rw [hz]⟩
      ·cases hmem
     have e := bodyY_le (KnownKOk.none _) ((start137 s r off n t).trans hm1)
     simp only [Option.some.injEq] at e
     rw [e] at hb
     exact hb
   ·trivial
  ·trivial
 ·rename_i t nl
  have e := bodyY_le (KnownKOk.none _) (end137l s t nl)
  simp only [Option.some.injEq] at e
  rw [e] at hb
  exact hb
 ·trivial
end Go.Am.Sto
end
section
namespace Go.Am.Sto
open Go Go.Am Go.Proofs
def D122 : Live := fun i => match i with | 0 => .keep [0, 1, 7, 8] | _ => .all
def L122 (P : Program) (rounds : Nat) : T → St → Option AV := runLoop P G0 .none .none 0 5 D122 Res.fresh0? 70 122 (.keep [0, 1, 7, 8]) 0 rounds
def t122 (cs : List AV) (n : Nat) (t nl : Bool) (i : Int) : T := tOf 19 [(0, .lst cs n t nl), (1, .fn (.func 58) [] []), (7, .int .i64 (.ofNat n)), (8, .int .i64 i)]
theorem start122 (cs : List AV) (n : Nat) (t nl : Bool) : bodyY Tryz.prog G0 .none (.none : KnownK AV) 0 5 D122 Res.fresh0? 70 Tryz.prog.funcs[122]? [.lst cs n t nl, .fn (.func 58) [] []] St.empty = L122 Tryz.prog 70 (t122 cs n t nl 0) St.empty := by kernel_rfl
theorem step122 (cs : List AV) (n i N : Nat) (t nl : Bool) : L122 Tryz.prog (N + 1) (t122 cs n t nl (.ofNat i)) St.empty =
  byB (!leI (.ofNat n) (.ofNat i)) (ifK (Nat.blt i n && nonNil cs) (opt1 .u32 (fun z => byB (leI 1000000000 z) (some (.int .i64 (.ofNat i))) (L122 Tryz.prog N (t122 cs n t nl (IntKind.i64.wrap (.ofNat i + 1))) St.empty)) (cs[i * 1]?))) (some (.int .i64 (-1))) := by kernel_rfl
def isLimb (a : AV) : Bool := match a with | .int .u32 z => leI 0 z && !leI 1000000000 z | _ => false
def limbsOk (n : Nat) (cs : List AV) : Bool := Nat.ble n 65 && (Nat.beq cs.length n && cs.all isLimb)
theorem isLimb_eq {a : AV} (h : isLimb a = true) : ∃ z, a = .int .u32 z ∧ 0 ≤ z ∧ z < 1000000000 := by
 unfold isLimb at h
 split at h
 ·rename_i z
  rw [Bool.and_eq_true, Bool.not_eq_true', leI_iff, leI_iff, decide_eq_true_iff, decide_eq_false_iff_not] at h
  exact ⟨z, rfl, h.1, by omega⟩
 ·cases h
theorem isLimb_of {z : Int} (h0 : 0 ≤ z) (h1 : z < 1000000000) : isLimb (.int .u32 z) = true := by
 show (leI 0 z && !leI 1000000000 z) = true
 rw [leI_t h0, leI_f h1]; rfl
theorem limbsOk_eq {n : Nat} {cs : List AV} (h : limbsOk n cs = true) : n ≤ 65 ∧ cs.length = n ∧ ∀ i, i < n → ∃ z, cs[i]? = some (.int .u32 z) ∧ 0 ≤ z ∧ z < 1000000000 := by
 unfold limbsOk at h
 rw [Bool.and_eq_true, Bool.and_eq_true] at h
 obtain ⟨h1, h2, h3⟩ := h
 have hl := Nat.eq_of_beq_eq_true h2
 refine ⟨Nat.le_of_ble_eq_true h1, hl, fun i hi => ?_⟩
 obtain ⟨z, e, h4, h5⟩ := isLimb_eq (List.all_eq_true.1 h3 cs[i] (List.getElem_mem (by omega)))
 exact ⟨z, by rw [List.getElem?_eq_getElem (by omega), e], h4, h5⟩
theorem main122 {cs : List AV} {n : Nat} (t nl : Bool) (hn : n ≤ 65) (h : ∀ i, i < n → ∃ z, cs[i]? = some (.int .u32 z) ∧ 0 ≤ z ∧ z < 1000000000) : ∀ (N i : Nat), i ≤ n → n < i + N → L122 Tryz.prog N (t122 cs n t nl (.ofNat i)) St.empty = some (.int .i64 (-1))
 | 0, i, h1, h2 => absurd h2 (by omega)
 | N + 1, i, h1, h2 => by
  rw [step122]
  by_cases hi : i < n
  ·obtain ⟨z, e, z0, z1⟩ := h i hi
   refine (byB_t (by rw [leI_f (show Int.ofNat i < Int.ofNat n by simp only [Int.ofNat_eq_natCast]; omega)]; rfl) _ _).trans ?_
   have hnn : nonNil cs = true := by
    cases cs with
    | nil => simp at e
    | cons => rfl
   refine (ifK_t (by rw [show Nat.blt i n = true by simpa using hi, hnn]; rfl) _).trans ?_
   rw [Nat.mul_one, e]
   show byB (leI 1000000000 z) _ _ = _
   refine (byB_f (leI_f z1) _ _).trans ?_
   rw [wrap64 (by simp only [Int.ofNat_eq_natCast]; omega) (by simp only [Int.ofNat_eq_natCast]; omega)]
   exact main122 t nl hn h N (i + 1) (by omega) (by omega)
  ·exact byB_f (by rw [leI_t (show Int.ofNat n ≤ Int.ofNat i by simp only [Int.ofNat_eq_natCast]; omega)]; rfl) _ _
def F122 : List AV → Option (Bool × AV)
 | [.lst cs n _ _, .fn (.func 58) [] []] => some (limbsOk n cs, .int .i64 (-1))
 | _ => none
theorem k122 : ZOk Tryz.prog G0 122 F122 := z_known (D := D122) (m := 70) (loops := 0) (n := 5) hm hn G0_plain (KnownOk.none _ _) (KnownKOk.none _) fun ar x hF => by
 unfold F122 at hF
 split at hF
 case h_2 => cases hF
 rename_i cs n t nl
 simp only [Option.some.injEq, Prod.mk.injEq] at hF
 obtain ⟨h1, rfl⟩ := hF
 obtain ⟨h2, _, h4⟩ := limbsOk_eq h1
 exact (start122 cs n t nl).trans (main122 t nl h2 h4 70 0 (by omega) (by omega))
def X35 : Known := Known.none.add 122 (zX F122)
def Y35 {β : Type} : KnownK β := KnownK.none.add 122 (zK F122)
end Go.Am.Sto
end
section
namespace Go.Am.Sto
open Go Go.Am Go.Proofs
section
variable (neg t nl : Bool) (cs : List AV)
def b35 (P : Program) (n : Nat) : Option AV := bodyY P G0 X35 (Y35 : KnownK AV) 0 5 noLive Res.fresh0? 3 P.funcs[35]? [.agg [.bool neg, .lst cs n t nl]] St.empty
theorem s35z : b35 neg t nl cs Tryz.prog 0 = some (.bool (bif neg then false else true)) := by unfold b35; cases neg <;> kernel_rfl
def s35P (P : Program) (k : Nat) : Prop := b35 neg t nl cs P (k + 1) = ifK (nonNil cs) (opt1 .u32 (fun z => byB (!eqI z 0) (ifK (AV.plain (.lst cs (k + 1) t nl)) (ifK (limbsOk (k + 1) cs) (some (.bool true)))) (some (.bool false))) (cs[k]?))
theorem s35 : ∀ k, k < 64 → s35P neg t nl cs Tryz.prog k
 | 0, _ => by unfold s35P; as_aux_lemma => kernel_rfl
 | 1, _ => by unfold s35P; as_aux_lemma => kernel_rfl
 | 2, _ => by unfold s35P; as_aux_lemma => kernel_rfl
 | 3, _ => by unfold s35P; as_aux_lemma => kernel_rfl
 | 4, _ => by unfold s35P; as_aux_lemma => kernel_rfl
 | 5, _ => by unfold s35P; as_aux_lemma => kernel_rfl
 | 6, _ => by unfold s35P; as_aux_lemma => kernel_rfl
 | 7, _ => by unfold s35P; as_aux_lemma => kernel_rfl
 | 8, _ => by unfold s35P; as_aux_lemma => kernel_rfl
 | 9, _ => by unfold s35P; as_aux_lemma => kernel_rfl
 | 10, _ => by unfold s35P; as_aux_lemma => kernel_rfl
 | 11, _ => by unfold s35P; as_aux_lemma => kernel_rfl
 | 12, _ => by unfold s35P; as_aux_lemma => kernel_rfl
 | 13, _ => by unfold s35P; as_aux_lemma => kernel_rfl
 | 14, _ => by unfold s35P; as_aux_lemma => kernel_rfl
 | 15, _ => by unfold s35P; as_aux_lemma => kernel_rfl
 | 16, _ => by unfold s35P; as_aux_lemma => kernel_rfl
 | 17, _ => by unfold s35P; as_aux_lemma => kernel_rfl
 | 18, _ => by unfold s35P; as_aux_lemma => kernel_rfl
 | 19, _ => by unfold s35P; as_aux_lemma => kernel_rfl
 | 20, _ => by unfold s35P; as_aux_lemma => kernel_rfl
 | 21, _ => by unfold s35P; as_aux_lemma => kernel_rfl
 | 22, _ => by unfold s35P; as_aux_lemma => kernel_rfl
 | 23, _ => by unfold s35P; as_aux_lemma => kernel_rfl
 | 24, _ => by unfold s35P; as_aux_lemma => kernel_rfl
 | 25, _ => by unfold s35P; as_aux_lemma => kernel_rfl
 | 26, _ => by unfold s35P; as_aux_lemma => kernel_rfl
 | 27, _ => by unfold s35P; as_aux_lemma => kernel_rfl
 | 28, _ => by unfold s35P; as_aux_lemma => kernel_rfl
 | 29, _ => by unfold s35P; as_aux_lemma => kernel_rfl
 | 30, _ => by unfold s35P; as_aux_lemma => kernel_rfl
 | 31, _ => by unfold s35P; as_aux_lemma => kernel_rfl
 | 32, _ => by unfold s35P; as_aux_lemma => kernel_rfl
 | 33, _ => by unfold s35P; as_aux_lemma => kernel_rfl
 | 34, _ => by unfold s35P; as_aux_lemma => kernel_rfl
 | 35, _ => by unfold s35P; as_aux_lemma => kernel_rfl
 | 36, _ => by unfold s35P; as_aux_lemma => kernel_rfl
 | 37, _ => by unfold s35P; as_aux_lemma => kernel_rfl
 | 38, _ => by unfold s35P; as_aux_lemma => kernel_rfl
 | 39, _ => by unfold s35P; as_aux_lemma => kernel_rfl
 | 40, _ => by unfold s35P; as_aux_lemma => kernel_rfl
 | 41, _ => by unfold s35P; as_aux_lemma => kernel_rfl
 | 42, _ => by unfold s35P; as_aux_lemma => kernel_rfl
 | 43, _ => by unfold s35P; as_aux_lemma => kernel_rfl
 | 44, _ => by unfold s35P; as_aux_lemma => kernel_rfl
 | 45, _ => by unfold s35P; as_aux_lemma => kernel_rfl
 | 46, _ => by unfold s35P; as_aux_lemma => kernel_rfl
 | 47, _ => by unfold s35P; as_aux_lemma => kernel_rfl
 | 48, _ => by unfold s35P; as_aux_lemma => kernel_rfl
 | 49, _ => by unfold s35P; as_aux_lemma => kernel_rfl
 | 50, _ => by unfold s35P; as_aux_lemma => kernel_rfl
 | 51, _ => by unfold s35P; as_aux_lemma => kernel_rfl
 | 52, _ => by unfold s35P; as_aux_lemma => kernel_rfl
 | 53, _ => by unfold s35P; as_aux_lemma => kernel_rfl
 | 54, _ => by unfold s35P; as_aux_lemma => kernel_rfl
 | 55, _ => by unfold s35P; as_aux_lemma => kernel_rfl
 | 56, _ => by unfold s35P; as_aux_lemma => kernel_rfl
 | 57, _ => by unfold s35P; as_aux_lemma => kernel_rfl
 | 58, _ => by unfold s35P; as_aux_lemma => kernel_rfl
 | 59, _ => by unfold s35P; as_aux_lemma => kernel_rfl
 | 60, _ => by unfold s35P; as_aux_lemma => kernel_rfl
 | 61, _ => by unfold s35P; as_aux_lemma => kernel_rfl
 | 62, _ => by unfold s35P; as_aux_lemma => kernel_rfl
 | 63, _ => by unfold s35P; as_aux_lemma => kernel_rfl
 | n + 64, h => absurd h (by omega)
end
def sndG (neg : Bool) (cs : List AV) (n : Nat) : Bool := Nat.ble n 64 && (limbsOk n cs && (match n with | 0 => !neg | k + 1 => match cs[k]? with | some (.int .u32 z) => !eqI z 0 | _ => false))
theorem limbsOk_plains {n : Nat} {cs : List AV} (h : limbsOk n cs = true) : AV.plains cs = true := by
 unfold limbsOk at h
 rw [Bool.and_eq_true, Bool.and_eq_true] at h
 obtain ⟨_, h2, h⟩ := h
 clear h2
 induction cs with
 | nil => rfl
 | cons a l ih =>
  rw [List.all_cons, Bool.and_eq_true] at h
  obtain ⟨z, rfl, _⟩ := isLimb_eq h.1
  show (true && AV.plains l) = true
  rw [ih h.2]; rfl
def F35g : List AV → Option (Bool × AV)
 | [.agg [.bool neg, .lst cs n _ _]] => some (sndG neg cs n, .bool true)
 | _ => none
theorem kX35 : KnownOk Tryz.prog G0 X35 := (KnownOk.none _ _).add k122
theorem kY35 {β : Type} : KnownKOk X35 (Y35 : KnownK β) := addH' (KnownKOk.none _) 122 (zK_le F122)
theorem k35g : ZOk Tryz.prog G0 35 F35g := z_known (D := noLive) (m := 3) (loops := 0) (n := 5) hm hn G0_plain kX35 kY35 fun ar x hF => by
 unfold F35g at hF
 split at hF
 case h_2 => cases hF
 rename_i neg cs n t nl
 simp only [Option.some.injEq, Prod.mk.injEq] at hF
 obtain ⟨h1, rfl⟩ := hF
 unfold sndG at h1
 rw [Bool.and_eq_true, Bool.and_eq_true] at h1
 obtain ⟨h2, h3, h4⟩ := h1
 have hn64 := Nat.le_of_ble_eq_true h2
 cases n with
 | zero =>
  have : neg = false := by simpa using h4
  subst this
  exact s35z false t nl cs
 | succ k =>
  have hs := s35 neg t nl cs k (by omega)
  unfold s35P at hs
  refine hs.trans ?_
  obtain ⟨_, h5, h6⟩ := limbsOk_eq h3
  obtain ⟨z, e, _, _⟩ := h6 k (by omega)
  have hnn : nonNil cs = true := by
   cases cs with
   | nil => simp at e
   | cons => rfl
  simp only [e] at h4
  rw [hnn, e]
  show byB (!eqI z 0) (ifK (AV.plains cs) (ifK (limbsOk (k + 1) cs) _)) _ = _
  rw [h4, limbsOk_plains h3, h3]; rfl
end Go.Am.Sto
end
