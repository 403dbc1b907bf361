import Derived.Test.YtlibahklbbachaaGreatDoorTx10
import Derived.Test.YtlibahklbbachaaGreatDoorTx19
import Derived.Test.YtlibahklbbachaaGreatDoorTx11
import Derived.Test.YtlibahklbbachaaGreatDoorTx13
import Derived.Test.YtlibahklbbachaaGreatDoorTx16
import Derived.Test.YtlibahklbbachaaGreatDoorTx18
set_option autoImplicit false
set_option maxRecDepth 100000
set_option linter.unusedSimpArgs false
set_option linter.unusedVariables false
section
namespace Go.Am.Sto
open Go Go.Am Go.Proofs
def D137 : Live := fun i => match i with | 0 => .keep [0] | _ => .all
def L137 (P : Program) (rounds : Nat) : T → St → Option Res := runLoop P G0 .none .none 0 3 D137 some 70 137 (.keep [0]) 0 rounds
def t137 (a : AV) : T := tOf 21 [(0, a)]
def at1 (s : St) (r off : Nat) : Option AV := match rowAt s r with | some o => o.vals[off]? | none => none
section
variable (s : St) (r off N n : Nat) (t : Bool)
theorem start137 : bodyY Tryz.prog G0 .none (.none : KnownK Res) 0 3 D137 some 70 Tryz.prog.funcs[137]? [.sl r off n 1 t] s = L137 Tryz.prog 70 (t137 (.sl r off n 1 t)) s := by kernel_rfl
theorem end137 : L137 Tryz.prog (N + 1) (t137 (.sl r off 0 1 t)) s = some (.ret (.sl r off 0 1 t) s) := by kernel_rfl
def stepP (P : Program) (k : Nat) : Prop := L137 P (N + 1) (t137 (.sl r off (k + 1) 1 t)) s = opt1 .u32 (fun z => byB (eqI z 0) (L137 P N (t137 (.sl r off k 1 false)) s) (some (.ret (.sl r off (k + 1) 1 t) s))) (at1 s r (off + k))
theorem c137_0 : stepP s r off N t Tryz.prog 0 := by unfold stepP; cases t <;> kernel_rfl
theorem c137_1 : stepP s r off N t Tryz.prog 1 := by unfold stepP; cases t <;> kernel_rfl
theorem c137_2 : stepP s r off N t Tryz.prog 2 := by unfold stepP; cases t <;> kernel_rfl
theorem c137_3 : stepP s r off N t Tryz.prog 3 := by unfold stepP; cases t <;> kernel_rfl
theorem c137_4 : stepP s r off N t Tryz.prog 4 := by unfold stepP; cases t <;> kernel_rfl
theorem c137_5 : stepP s r off N t Tryz.prog 5 := by unfold stepP; cases t <;> kernel_rfl
theorem c137_6 : stepP s r off N t Tryz.prog 6 := by unfold stepP; cases t <;> kernel_rfl
theorem c137_7 : stepP s r off N t Tryz.prog 7 := by unfold stepP; cases t <;> kernel_rfl
theorem c137_8 : stepP s r off N t Tryz.prog 8 := by unfold stepP; cases t <;> kernel_rfl
theorem c137_9 : stepP s r off N t Tryz.prog 9 := by unfold stepP; cases t <;> kernel_rfl
theorem c137_10 : stepP s r off N t Tryz.prog 10 := by unfold stepP; cases t <;> kernel_rfl
theorem c137_11 : stepP s r off N t Tryz.prog 11 := by unfold stepP; cases t <;> kernel_rfl
theorem c137_12 : stepP s r off N t Tryz.prog 12 := by unfold stepP; cases t <;> kernel_rfl
theorem c137_13 : stepP s r off N t Tryz.prog 13 := by unfold stepP; cases t <;> kernel_rfl
theorem c137_14 : stepP s r off N t Tryz.prog 14 := by unfold stepP; cases t <;> kernel_rfl
theorem c137_15 : stepP s r off N t Tryz.prog 15 := by unfold stepP; cases t <;> kernel_rfl
theorem c137_16 : stepP s r off N t Tryz.prog 16 := by unfold stepP; cases t <;> kernel_rfl
theorem c137_17 : stepP s r off N t Tryz.prog 17 := by unfold stepP; cases t <;> kernel_rfl
theorem c137_18 : stepP s r off N t Tryz.prog 18 := by unfold stepP; cases t <;> kernel_rfl
theorem c137_19 : stepP s r off N t Tryz.prog 19 := by unfold stepP; cases t <;> kernel_rfl
theorem c137_20 : stepP s r off N t Tryz.prog 20 := by unfold stepP; cases t <;> kernel_rfl
theorem c137_21 : stepP s r off N t Tryz.prog 21 := by unfold stepP; cases t <;> kernel_rfl
theorem c137_22 : stepP s r off N t Tryz.prog 22 := by unfold stepP; cases t <;> kernel_rfl
theorem c137_23 : stepP s r off N t Tryz.prog 23 := by unfold stepP; cases t <;> kernel_rfl
theorem c137_24 : stepP s r off N t Tryz.prog 24 := by unfold stepP; cases t <;> kernel_rfl
theorem c137_25 : stepP s r off N t Tryz.prog 25 := by unfold stepP; cases t <;> kernel_rfl
theorem c137_26 : stepP s r off N t Tryz.prog 26 := by unfold stepP; cases t <;> kernel_rfl
theorem c137_27 : stepP s r off N t Tryz.prog 27 := by unfold stepP; cases t <;> kernel_rfl
theorem c137_28 : stepP s r off N t Tryz.prog 28 := by unfold stepP; cases t <;> kernel_rfl
theorem c137_29 : stepP s r off N t Tryz.prog 29 := by unfold stepP; cases t <;> kernel_rfl
theorem c137_30 : stepP s r off N t Tryz.prog 30 := by unfold stepP; cases t <;> kernel_rfl
theorem c137_31 : stepP s r off N t Tryz.prog 31 := by unfold stepP; cases t <;> kernel_rfl
theorem c137_32 : stepP s r off N t Tryz.prog 32 := by unfold stepP; cases t <;> kernel_rfl
theorem c137_33 : stepP s r off N t Tryz.prog 33 := by unfold stepP; cases t <;> kernel_rfl
theorem c137_34 : stepP s r off N t Tryz.prog 34 := by unfold stepP; cases t <;> kernel_rfl
theorem c137_35 : stepP s r off N t Tryz.prog 35 := by unfold stepP; cases t <;> kernel_rfl
theorem c137_36 : stepP s r off N t Tryz.prog 36 := by unfold stepP; cases t <;> kernel_rfl
theorem c137_37 : stepP s r off N t Tryz.prog 37 := by unfold stepP; cases t <;> kernel_rfl
theorem c137_38 : stepP s r off N t Tryz.prog 38 := by unfold stepP; cases t <;> kernel_rfl
theorem c137_39 : stepP s r off N t Tryz.prog 39 := by unfold stepP; cases t <;> kernel_rfl
theorem c137_40 : stepP s r off N t Tryz.prog 40 := by unfold stepP; cases t <;> kernel_rfl
theorem c137_41 : stepP s r off N t Tryz.prog 41 := by unfold stepP; cases t <;> kernel_rfl
theorem c137_42 : stepP s r off N t Tryz.prog 42 := by unfold stepP; cases t <;> kernel_rfl
theorem c137_43 : stepP s r off N t Tryz.prog 43 := by unfold stepP; cases t <;> kernel_rfl
theorem c137_44 : stepP s r off N t Tryz.prog 44 := by unfold stepP; cases t <;> kernel_rfl
theorem c137_45 : stepP s r off N t Tryz.prog 45 := by unfold stepP; cases t <;> kernel_rfl
theorem c137_46 : stepP s r off N t Tryz.prog 46 := by unfold stepP; cases t <;> kernel_rfl
theorem c137_47 : stepP s r off N t Tryz.prog 47 := by unfold stepP; cases t <;> kernel_rfl
theorem c137_48 : stepP s r off N t Tryz.prog 48 := by unfold stepP; cases t <;> kernel_rfl
theorem c137_49 : stepP s r off N t Tryz.prog 49 := by unfold stepP; cases t <;> kernel_rfl
theorem c137_50 : stepP s r off N t Tryz.prog 50 := by unfold stepP; cases t <;> kernel_rfl
theorem c137_51 : stepP s r off N t Tryz.prog 51 := by unfold stepP; cases t <;> kernel_rfl
theorem c137_52 : stepP s r off N t Tryz.prog 52 := by unfold stepP; cases t <;> kernel_rfl
theorem c137_53 : stepP s r off N t Tryz.prog 53 := by unfold stepP; cases t <;> kernel_rfl
theorem c137_54 : stepP s r off N t Tryz.prog 54 := by unfold stepP; cases t <;> kernel_rfl
theorem c137_55 : stepP s r off N t Tryz.prog 55 := by unfold stepP; cases t <;> kernel_rfl
theorem c137_56 : stepP s r off N t Tryz.prog 56 := by unfold stepP; cases t <;> kernel_rfl
theorem c137_57 : stepP s r off N t Tryz.prog 57 := by unfold stepP; cases t <;> kernel_rfl
theorem c137_58 : stepP s r off N t Tryz.prog 58 := by unfold stepP; cases t <;> kernel_rfl
theorem c137_59 : stepP s r off N t Tryz.prog 59 := by unfold stepP; cases t <;> kernel_rfl
theorem c137_60 : stepP s r off N t Tryz.prog 60 := by unfold stepP; cases t <;> kernel_rfl
theorem c137_61 : stepP s r off N t Tryz.prog 61 := by unfold stepP; cases t <;> kernel_rfl
theorem c137_62 : stepP s r off N t Tryz.prog 62 := by unfold stepP; cases t <;> kernel_rfl
theorem c137_63 : stepP s r off N t Tryz.prog 63 := by unfold stepP; cases t <;> kernel_rfl
theorem c137_64 : stepP s r off N t Tryz.prog 64 := by unfold stepP; cases t <;> kernel_rfl
theorem c137_65 : stepP s r off N t Tryz.prog 65 := by unfold stepP; cases t <;> kernel_rfl
theorem step137 : ∀ k, k < 66 → stepP s r off N t Tryz.prog k
  | 0, _ => c137_0 s r off N t
  | 1, _ => c137_1 s r off N t
  | 2, _ => c137_2 s r off N t
  | 3, _ => c137_3 s r off N t
  | 4, _ => c137_4 s r off N t
  | 5, _ => c137_5 s r off N t
  | 6, _ => c137_6 s r off N t
  | 7, _ => c137_7 s r off N t
  | 8, _ => c137_8 s r off N t
  | 9, _ => c137_9 s r off N t
  | 10, _ => c137_10 s r off N t
  | 11, _ => c137_11 s r off N t
  | 12, _ => c137_12 s r off N t
  | 13, _ => c137_13 s r off N t
  | 14, _ => c137_14 s r off N t
  | 15, _ => c137_15 s r off N t
  | 16, _ => c137_16 s r off N t
  | 17, _ => c137_17 s r off N t
  | 18, _ => c137_18 s r off N t
  | 19, _ => c137_19 s r off N t
  | 20, _ => c137_20 s r off N t
  | 21, _ => c137_21 s r off N t
  | 22, _ => c137_22 s r off N t
  | 23, _ => c137_23 s r off N t
  | 24, _ => c137_24 s r off N t
  | 25, _ => c137_25 s r off N t
  | 26, _ => c137_26 s r off N t
  | 27, _ => c137_27 s r off N t
  | 28, _ => c137_28 s r off N t
  | 29, _ => c137_29 s r off N t
  | 30, _ => c137_30 s r off N t
  | 31, _ => c137_31 s r off N t
  | 32, _ => c137_32 s r off N t
  | 33, _ => c137_33 s r off N t
  | 34, _ => c137_34 s r off N t
  | 35, _ => c137_35 s r off N t
  | 36, _ => c137_36 s r off N t
  | 37, _ => c137_37 s r off N t
  | 38, _ => c137_38 s r off N t
  | 39, _ => c137_39 s r off N t
  | 40, _ => c137_40 s r off N t
  | 41, _ => c137_41 s r off N t
  | 42, _ => c137_42 s r off N t
  | 43, _ => c137_43 s r off N t
  | 44, _ => c137_44 s r off N t
  | 45, _ => c137_45 s r off N t
  | 46, _ => c137_46 s r off N t
  | 47, _ => c137_47 s r off N t
  | 48, _ => c137_48 s r off N t
  | 49, _ => c137_49 s r off N t
  | 50, _ => c137_50 s r off N t
  | 51, _ => c137_51 s r off N t
  | 52, _ => c137_52 s r off N t
  | 53, _ => c137_53 s r off N t
  | 54, _ => c137_54 s r off N t
  | 55, _ => c137_55 s r off N t
  | 56, _ => c137_56 s r off N t
  | 57, _ => c137_57 s r off N t
  | 58, _ => c137_58 s r off N t
  | 59, _ => c137_59 s r off N t
  | 60, _ => c137_60 s r off N t
  | 61, _ => c137_61 s r off N t
  | 62, _ => c137_62 s r off N t
  | 63, _ => c137_63 s r off N t
  | 64, _ => c137_64 s r off N t
  | 65, _ => c137_65 s r off N t
  | n + 66, h => absurd h (by omega)
end
end Go.Am.Sto
end
section
namespace Go.Am.Sto
open Go Go.Am Go.Proofs
def trimA (cs : List AV) : Nat → Nat
  | 0 => 0
  | k + 1 => match cs[k]? with
    | some (.int .u32 z) => bif eqI z 0 then trimA cs k else k + 1
    | _ => 0
def isU (a : AV) : Bool := match a with | .int .u32 _ => true | _ => false
theorem trimA_le (cs : List AV) : ∀ k, trimA cs k ≤ k
  | 0 => Nat.le_refl _
  | k + 1 => by
    unfold trimA
    split
    · rename_i z _
      cases eqI z 0 with
      | true => exact Nat.le_succ_of_le (trimA_le cs k)
      | false => exact Nat.le_refl _
    · omega
theorem main137 {s : St} {r off : Nat} {cs : List AV} : ∀ (k : Nat) (t : Bool) (N : Nat), k < 66 → k < N → (∀ i, i < k → at1 s r (off + i) = cs[i]? ∧ ∃ z, cs[i]? = some (.int .u32 z)) →
    L137 Tryz.prog N (t137 (.sl r off k 1 t)) s = some (.ret (.sl r off (trimA cs k) 1 (t && Nat.beq (trimA cs k) k)) s)
  | 0, t, N, h1, h2, h => by
    obtain ⟨N, rfl⟩ : ∃ M, N = M + 1 := ⟨N - 1, by omega⟩
    rw [end137]
    show _ = some (Res.ret (.sl r off 0 1 (t && true)) s)
    rw [Bool.and_true]
  | k + 1, t, N, h1, h2, h => by
    obtain ⟨N, rfl⟩ : ∃ M, N = M + 1 := ⟨N - 1, by omega⟩
    have hs := step137 s r off N t k (by omega)
    unfold stepP at hs
    obtain ⟨e1, z, e2⟩ := h k (by omega)
    rw [hs, e1, e2]
    show byB (eqI z 0) _ _ = _
    have ht : trimA cs (k + 1) = bif eqI z 0 then trimA cs k else k + 1 := by simp only [trimA, e2]
    rw [ht]
    cases eqI z 0 with
    | true =>
      refine (main137 k false N (by omega) (by omega) fun i hi => h i (by omega)).trans ?_
      show some (Res.ret (.sl r off (trimA cs k) 1 (false && _)) s) = some (Res.ret (.sl r off (trimA cs k) 1 (t && Nat.beq (trimA cs k) (k + 1))) s)
      have : Nat.beq (trimA cs k) (k + 1) = false := by
        cases hb : Nat.beq (trimA cs k) (k + 1) with
        | false => rfl
        | true => have := Nat.eq_of_beq_eq_true hb; have := trimA_le cs k; omega
      rw [this, Bool.and_false, Bool.false_and]
    | false =>
      show some (Res.ret (.sl r off (k + 1) 1 t) s) = some (Res.ret (.sl r off (k + 1) 1 (t && Nat.beq (k + 1) (k + 1))) s)
      rw [Nat.beq_refl, Bool.and_true]
def cutC (n : Nat) (cs : List AV) : Bool := Nat.ble n 65 && cs.all isU
def cutX (args : List AV) (s : St) : Res := match args with
  | [.sl r off n 1 t] => match rowAt s r with
    | some o => match cutN n off o.vals with
      | some cs => bif cutC n cs then .ret (.sl r off (trimA cs n) 1 (t && Nat.beq (trimA cs n) n)) s else .fail
      | none => .fail
    | none => .fail
  | [.lst [] 0 t nl] => .ret (.lst [] 0 t nl) s
  | _ => .fail
def cutK {β : Type} (args : List AV) (s : St) (kr : Res → Option β) : Option β := match args with
  | [.sl r off n 1 t] => match rowAt s r with
    | some o => optK (fun cs => ifK (cutC n cs) (kr (.ret (.sl r off (trimA cs n) 1 (t && Nat.beq (trimA cs n) n)) s))) (cutN n off o.vals)
    | none => none
  | [.lst [] 0 t nl] => kr (.ret (.lst [] 0 t nl) s)
  | _ => none
theorem cutK_le {β : Type} (args : List AV) (s : St) (kr kr' : Res → Option β) (h : ∀ r, Le (kr r) (kr' r)) : Le (cutK args s kr) (kr' (cutX args s)) := by
  intro x hx
  unfold cutK at hx
  split at hx
  · rename_i r off n t
    split at hx
    · rename_i o ho
      obtain ⟨cs, hc, hx⟩ := optK_some hx
      obtain ⟨hb, hx⟩ := ifK_some hx
      have e : cutX [.sl r off n 1 t] s = .ret (.sl r off (trimA cs n) 1 (t && Nat.beq (trimA cs n) n)) s := by simp only [cutX, ho, hc, hb, cond_true]
      rw [e]; exact h _ x hx
    · cases hx
  · exact h _ x hx
  · cases hx
theorem end137l (s : St) (t nl : Bool) : bodyY Tryz.prog G0 .none (.none : KnownK Res) 0 3 D137 some 70 Tryz.prog.funcs[137]? [.lst [] 0 t nl] s = some (.ret (.lst [] 0 t nl) s) := by kernel_rfl
theorem k137 : ∀ (args : List AV) (s : St) (E : Env) (w : World) (vs : List Value), Rel E s w → GlobOk E G0 w → VRL E args vs → ResOk Tryz.prog E s w 137 vs (cutX args s) := by
  intro args s E w vs h hG ha
  have hb := bodyD_ok (D := D137) hm hn (callN_ok hm hn (KnownOk.none Tryz.prog G0) 0 3) 70 137 args s E w vs h hG ha
  unfold cutX
  split
  · rename_i r off n t
    split
    · rename_i o ho
      split
      · rename_i cs hc
        cases hk : cutC n cs with
        | false => trivial
        | true =>
          unfold cutC at hk
          rw [Bool.and_eq_true] at hk
          have hn65 : n ≤ 65 := Nat.le_of_ble_eq_true hk.1
          have hlen := cutN_len hc
          have hm1 := main137 (s := s) (r := r) (off := off) (cs := cs) n t 70 (by omega) (by omega) fun i hi => by
            have hget : cs[i]? = o.vals[off + i]? := cutN_get hc i hi
            refine ⟨by unfold at1; rw [ho]; exact hget.symm, ?_⟩
            have hmem := List.all_eq_true.1 hk.2 cs[i] (List.getElem_mem (by omega))
            rw [List.getElem?_eq_getElem (by omega)]
            unfold isU at hmem
            split at hmem
            · rename_i z hz; exact ⟨z, by rw [hz]⟩
            · cases hmem
          have e := bodyY_le (KnownKOk.none _) ((start137 s r off n t).trans hm1)
          simp only [Option.some.injEq] at e
          rw [e] at hb
          exact hb
      · trivial
    · trivial
  · rename_i t nl
    have e := bodyY_le (KnownKOk.none _) (end137l s t nl)
    simp only [Option.some.injEq] at e
    rw [e] at hb
    exact hb
  · trivial
end Go.Am.Sto
end
section
namespace Go.Am.Sto
open Go Go.Am Go.Proofs
theorem ifK_t {β : Type} {c : Bool} (h : c = true) (x : Option β) : ifK c x = x := by rw [h]; rfl
theorem byB_t {β : Type} {c : Bool} (h : c = true) (x y : β) : byB c x y = x := by rw [h]
theorem byB_f {β : Type} {c : Bool} (h : c = false) (x y : β) : byB c x y = y := by rw [h]
end Go.Am.Sto
end
section
namespace Go.Am.Sto
open Go Go.Am Go.Proofs
def D122 : Live := fun i => match i with | 0 => .keep [0, 1, 7, 8] | _ => .all
def L122 (P : Program) (rounds : Nat) : T → St → Option AV := runLoop P G0 .none .none 0 5 D122 Res.fresh0? 70 122 (.keep [0, 1, 7, 8]) 0 rounds
def t122 (cs : List AV) (n : Nat) (t nl : Bool) (i : Int) : T := tOf 19 [(0, .lst cs n t nl), (1, .fn (.func 58) [] []), (7, .int .i64 (.ofNat n)), (8, .int .i64 i)]
theorem start122 (cs : List AV) (n : Nat) (t nl : Bool) : bodyY Tryz.prog G0 .none (.none : KnownK AV) 0 5 D122 Res.fresh0? 70 Tryz.prog.funcs[122]? [.lst cs n t nl, .fn (.func 58) [] []] St.empty = L122 Tryz.prog 70 (t122 cs n t nl 0) St.empty := by kernel_rfl
theorem step122 (cs : List AV) (n i N : Nat) (t nl : Bool) : L122 Tryz.prog (N + 1) (t122 cs n t nl (.ofNat i)) St.empty =
    byB (!leI (.ofNat n) (.ofNat i)) (ifK (Nat.blt i n && nonNil cs) (opt1 .u32 (fun z => byB (leI 1000000000 z) (some (.int .i64 (.ofNat i))) (L122 Tryz.prog N (t122 cs n t nl (IntKind.i64.wrap (.ofNat i + 1))) St.empty)) (cs[i * 1]?))) (some (.int .i64 (-1))) := by kernel_rfl
def isLimb (a : AV) : Bool := match a with | .int .u32 z => leI 0 z && !leI 1000000000 z | _ => false
def limbsOk (n : Nat) (cs : List AV) : Bool := Nat.ble n 65 && (Nat.beq cs.length n && cs.all isLimb)
theorem isLimb_eq {a : AV} (h : isLimb a = true) : ∃ z, a = .int .u32 z ∧ 0 ≤ z ∧ z < 1000000000 := by
  unfold isLimb at h
  split at h
  · rename_i z
    rw [Bool.and_eq_true, Bool.not_eq_true', leI_iff, leI_iff, decide_eq_true_iff, decide_eq_false_iff_not] at h
    exact ⟨z, rfl, h.1, by omega⟩
  · cases h
theorem isLimb_of {z : Int} (h0 : 0 ≤ z) (h1 : z < 1000000000) : isLimb (.int .u32 z) = true := by
  show (leI 0 z && !leI 1000000000 z) = true
  rw [leI_t h0, leI_f h1]; rfl
theorem limbsOk_eq {n : Nat} {cs : List AV} (h : limbsOk n cs = true) : n ≤ 65 ∧ cs.length = n ∧ ∀ i, i < n → ∃ z, cs[i]? = some (.int .u32 z) ∧ 0 ≤ z ∧ z < 1000000000 := by
  unfold limbsOk at h
  rw [Bool.and_eq_true, Bool.and_eq_true] at h
  obtain ⟨h1, h2, h3⟩ := h
  have hl := Nat.eq_of_beq_eq_true h2
  refine ⟨Nat.le_of_ble_eq_true h1, hl, fun i hi => ?_⟩
  obtain ⟨z, e, h4, h5⟩ := isLimb_eq (List.all_eq_true.1 h3 cs[i] (List.getElem_mem (by omega)))
  exact ⟨z, by rw [List.getElem?_eq_getElem (by omega), e], h4, h5⟩
theorem main122 {cs : List AV} {n : Nat} (t nl : Bool) (hn : n ≤ 65) (h : ∀ i, i < n → ∃ z, cs[i]? = some (.int .u32 z) ∧ 0 ≤ z ∧ z < 1000000000) : ∀ (N i : Nat), i ≤ n → n < i + N → L122 Tryz.prog N (t122 cs n t nl (.ofNat i)) St.empty = some (.int .i64 (-1))
  | 0, i, h1, h2 => absurd h2 (by omega)
  | N + 1, i, h1, h2 => by
    rw [step122]
    by_cases hi : i < n
    · obtain ⟨z, e, z0, z1⟩ := h i hi
      refine (byB_t (by rw [leI_f (show Int.ofNat i < Int.ofNat n by simp only [Int.ofNat_eq_natCast]; omega)]; rfl) _ _).trans ?_
      have hnn : nonNil cs = true := by
        cases cs with
        | nil => simp at e
        | cons => rfl
      refine (ifK_t (by rw [show Nat.blt i n = true by simpa using hi, hnn]; rfl) _).trans ?_
      rw [Nat.mul_one, e]
      show byB (leI 1000000000 z) _ _ = _
      refine (byB_f (leI_f z1) _ _).trans ?_
      rw [wrap64 (by simp only [Int.ofNat_eq_natCast]; omega) (by simp only [Int.ofNat_eq_natCast]; omega)]
      exact main122 t nl hn h N (i + 1) (by omega) (by omega)
    · exact byB_f (by rw [leI_t (show Int.ofNat n ≤ Int.ofNat i by simp only [Int.ofNat_eq_natCast]; omega)]; rfl) _ _
def F122 : List AV → Option (Bool × AV)
  | [.lst cs n _ _, .fn (.func 58) [] []] => some (limbsOk n cs, .int .i64 (-1))
  | _ => none
theorem k122 : ZOk Tryz.prog G0 122 F122 := z_known (D := D122) (m := 70) (loops := 0) (n := 5) hm hn G0_plain (KnownOk.none _ _) (KnownKOk.none _) fun ar x hF => by
  unfold F122 at hF
  split at hF
  case h_2 => cases hF
  rename_i cs n t nl
  simp only [Option.some.injEq, Prod.mk.injEq] at hF
  obtain ⟨h1, rfl⟩ := hF
  obtain ⟨h2, _, h4⟩ := limbsOk_eq h1
  exact (start122 cs n t nl).trans (main122 t nl h2 h4 70 0 (by omega) (by omega))
def X35 : Known := Known.none.add 122 (zX F122)
def Y35 {β : Type} : KnownK β := KnownK.none.add 122 (zK F122)
end Go.Am.Sto
end
section
namespace Go.Am.Sto
open Go Go.Am Go.Proofs
section
variable (neg t nl : Bool) (cs : List AV)
def b35 (P : Program) (n : Nat) : Option AV := bodyY P G0 X35 (Y35 : KnownK AV) 0 5 noLive Res.fresh0? 3 P.funcs[35]? [.agg [.bool neg, .lst cs n t nl]] St.empty
theorem s35z : b35 neg t nl cs Tryz.prog 0 = some (.bool (bif neg then false else true)) := by unfold b35; cases neg <;> kernel_rfl
def s35P (P : Program) (k : Nat) : Prop := b35 neg t nl cs P (k + 1) = ifK (nonNil cs) (opt1 .u32 (fun z => byB (!eqI z 0) (ifK (AV.plain (.lst cs (k + 1) t nl)) (ifK (limbsOk (k + 1) cs) (some (.bool true)))) (some (.bool false))) (cs[k]?))
theorem s35_0 : s35P neg t nl cs Tryz.prog 0 := by unfold s35P; kernel_rfl
theorem s35_1 : s35P neg t nl cs Tryz.prog 1 := by unfold s35P; kernel_rfl
theorem s35_2 : s35P neg t nl cs Tryz.prog 2 := by unfold s35P; kernel_rfl
theorem s35_3 : s35P neg t nl cs Tryz.prog 3 := by unfold s35P; kernel_rfl
theorem s35_4 : s35P neg t nl cs Tryz.prog 4 := by unfold s35P; kernel_rfl
theorem s35_5 : s35P neg t nl cs Tryz.prog 5 := by unfold s35P; kernel_rfl
theorem s35_6 : s35P neg t nl cs Tryz.prog 6 := by unfold s35P; kernel_rfl
theorem s35_7 : s35P neg t nl cs Tryz.prog 7 := by unfold s35P; kernel_rfl
theorem s35_8 : s35P neg t nl cs Tryz.prog 8 := by unfold s35P; kernel_rfl
theorem s35_9 : s35P neg t nl cs Tryz.prog 9 := by unfold s35P; kernel_rfl
theorem s35_10 : s35P neg t nl cs Tryz.prog 10 := by unfold s35P; kernel_rfl
theorem s35_11 : s35P neg t nl cs Tryz.prog 11 := by unfold s35P; kernel_rfl
theorem s35_12 : s35P neg t nl cs Tryz.prog 12 := by unfold s35P; kernel_rfl
theorem s35_13 : s35P neg t nl cs Tryz.prog 13 := by unfold s35P; kernel_rfl
theorem s35_14 : s35P neg t nl cs Tryz.prog 14 := by unfold s35P; kernel_rfl
theorem s35_15 : s35P neg t nl cs Tryz.prog 15 := by unfold s35P; kernel_rfl
theorem s35_16 : s35P neg t nl cs Tryz.prog 16 := by unfold s35P; kernel_rfl
theorem s35_17 : s35P neg t nl cs Tryz.prog 17 := by unfold s35P; kernel_rfl
theorem s35_18 : s35P neg t nl cs Tryz.prog 18 := by unfold s35P; kernel_rfl
theorem s35_19 : s35P neg t nl cs Tryz.prog 19 := by unfold s35P; kernel_rfl
theorem s35_20 : s35P neg t nl cs Tryz.prog 20 := by unfold s35P; kernel_rfl
theorem s35_21 : s35P neg t nl cs Tryz.prog 21 := by unfold s35P; kernel_rfl
theorem s35_22 : s35P neg t nl cs Tryz.prog 22 := by unfold s35P; kernel_rfl
theorem s35_23 : s35P neg t nl cs Tryz.prog 23 := by unfold s35P; kernel_rfl
theorem s35_24 : s35P neg t nl cs Tryz.prog 24 := by unfold s35P; kernel_rfl
theorem s35_25 : s35P neg t nl cs Tryz.prog 25 := by unfold s35P; kernel_rfl
theorem s35_26 : s35P neg t nl cs Tryz.prog 26 := by unfold s35P; kernel_rfl
theorem s35_27 : s35P neg t nl cs Tryz.prog 27 := by unfold s35P; kernel_rfl
theorem s35_28 : s35P neg t nl cs Tryz.prog 28 := by unfold s35P; kernel_rfl
theorem s35_29 : s35P neg t nl cs Tryz.prog 29 := by unfold s35P; kernel_rfl
theorem s35_30 : s35P neg t nl cs Tryz.prog 30 := by unfold s35P; kernel_rfl
theorem s35_31 : s35P neg t nl cs Tryz.prog 31 := by unfold s35P; kernel_rfl
theorem s35_32 : s35P neg t nl cs Tryz.prog 32 := by unfold s35P; kernel_rfl
theorem s35_33 : s35P neg t nl cs Tryz.prog 33 := by unfold s35P; kernel_rfl
theorem s35_34 : s35P neg t nl cs Tryz.prog 34 := by unfold s35P; kernel_rfl
theorem s35_35 : s35P neg t nl cs Tryz.prog 35 := by unfold s35P; kernel_rfl
theorem s35_36 : s35P neg t nl cs Tryz.prog 36 := by unfold s35P; kernel_rfl
theorem s35_37 : s35P neg t nl cs Tryz.prog 37 := by unfold s35P; kernel_rfl
theorem s35_38 : s35P neg t nl cs Tryz.prog 38 := by unfold s35P; kernel_rfl
theorem s35_39 : s35P neg t nl cs Tryz.prog 39 := by unfold s35P; kernel_rfl
theorem s35_40 : s35P neg t nl cs Tryz.prog 40 := by unfold s35P; kernel_rfl
theorem s35_41 : s35P neg t nl cs Tryz.prog 41 := by unfold s35P; kernel_rfl
theorem s35_42 : s35P neg t nl cs Tryz.prog 42 := by unfold s35P; kernel_rfl
theorem s35_43 : s35P neg t nl cs Tryz.prog 43 := by unfold s35P; kernel_rfl
theorem s35_44 : s35P neg t nl cs Tryz.prog 44 := by unfold s35P; kernel_rfl
theorem s35_45 : s35P neg t nl cs Tryz.prog 45 := by unfold s35P; kernel_rfl
theorem s35_46 : s35P neg t nl cs Tryz.prog 46 := by unfold s35P; kernel_rfl
theorem s35_47 : s35P neg t nl cs Tryz.prog 47 := by unfold s35P; kernel_rfl
theorem s35_48 : s35P neg t nl cs Tryz.prog 48 := by unfold s35P; kernel_rfl
theorem s35_49 : s35P neg t nl cs Tryz.prog 49 := by unfold s35P; kernel_rfl
theorem s35_50 : s35P neg t nl cs Tryz.prog 50 := by unfold s35P; kernel_rfl
theorem s35_51 : s35P neg t nl cs Tryz.prog 51 := by unfold s35P; kernel_rfl
theorem s35_52 : s35P neg t nl cs Tryz.prog 52 := by unfold s35P; kernel_rfl
theorem s35_53 : s35P neg t nl cs Tryz.prog 53 := by unfold s35P; kernel_rfl
theorem s35_54 : s35P neg t nl cs Tryz.prog 54 := by unfold s35P; kernel_rfl
theorem s35_55 : s35P neg t nl cs Tryz.prog 55 := by unfold s35P; kernel_rfl
theorem s35_56 : s35P neg t nl cs Tryz.prog 56 := by unfold s35P; kernel_rfl
theorem s35_57 : s35P neg t nl cs Tryz.prog 57 := by unfold s35P; kernel_rfl
theorem s35_58 : s35P neg t nl cs Tryz.prog 58 := by unfold s35P; kernel_rfl
theorem s35_59 : s35P neg t nl cs Tryz.prog 59 := by unfold s35P; kernel_rfl
theorem s35_60 : s35P neg t nl cs Tryz.prog 60 := by unfold s35P; kernel_rfl
theorem s35_61 : s35P neg t nl cs Tryz.prog 61 := by unfold s35P; kernel_rfl
theorem s35_62 : s35P neg t nl cs Tryz.prog 62 := by unfold s35P; kernel_rfl
theorem s35_63 : s35P neg t nl cs Tryz.prog 63 := by unfold s35P; kernel_rfl
theorem s35 : ∀ k, k < 64 → s35P neg t nl cs Tryz.prog k
  | 0, _ => s35_0 neg t nl cs
  | 1, _ => s35_1 neg t nl cs
  | 2, _ => s35_2 neg t nl cs
  | 3, _ => s35_3 neg t nl cs
  | 4, _ => s35_4 neg t nl cs
  | 5, _ => s35_5 neg t nl cs
  | 6, _ => s35_6 neg t nl cs
  | 7, _ => s35_7 neg t nl cs
  | 8, _ => s35_8 neg t nl cs
  | 9, _ => s35_9 neg t nl cs
  | 10, _ => s35_10 neg t nl cs
  | 11, _ => s35_11 neg t nl cs
  | 12, _ => s35_12 neg t nl cs
  | 13, _ => s35_13 neg t nl cs
  | 14, _ => s35_14 neg t nl cs
  | 15, _ => s35_15 neg t nl cs
  | 16, _ => s35_16 neg t nl cs
  | 17, _ => s35_17 neg t nl cs
  | 18, _ => s35_18 neg t nl cs
  | 19, _ => s35_19 neg t nl cs
  | 20, _ => s35_20 neg t nl cs
  | 21, _ => s35_21 neg t nl cs
  | 22, _ => s35_22 neg t nl cs
  | 23, _ => s35_23 neg t nl cs
  | 24, _ => s35_24 neg t nl cs
  | 25, _ => s35_25 neg t nl cs
  | 26, _ => s35_26 neg t nl cs
  | 27, _ => s35_27 neg t nl cs
  | 28, _ => s35_28 neg t nl cs
  | 29, _ => s35_29 neg t nl cs
  | 30, _ => s35_30 neg t nl cs
  | 31, _ => s35_31 neg t nl cs
  | 32, _ => s35_32 neg t nl cs
  | 33, _ => s35_33 neg t nl cs
  | 34, _ => s35_34 neg t nl cs
  | 35, _ => s35_35 neg t nl cs
  | 36, _ => s35_36 neg t nl cs
  | 37, _ => s35_37 neg t nl cs
  | 38, _ => s35_38 neg t nl cs
  | 39, _ => s35_39 neg t nl cs
  | 40, _ => s35_40 neg t nl cs
  | 41, _ => s35_41 neg t nl cs
  | 42, _ => s35_42 neg t nl cs
  | 43, _ => s35_43 neg t nl cs
  | 44, _ => s35_44 neg t nl cs
  | 45, _ => s35_45 neg t nl cs
  | 46, _ => s35_46 neg t nl cs
  | 47, _ => s35_47 neg t nl cs
  | 48, _ => s35_48 neg t nl cs
  | 49, _ => s35_49 neg t nl cs
  | 50, _ => s35_50 neg t nl cs
  | 51, _ => s35_51 neg t nl cs
  | 52, _ => s35_52 neg t nl cs
  | 53, _ => s35_53 neg t nl cs
  | 54, _ => s35_54 neg t nl cs
  | 55, _ => s35_55 neg t nl cs
  | 56, _ => s35_56 neg t nl cs
  | 57, _ => s35_57 neg t nl cs
  | 58, _ => s35_58 neg t nl cs
  | 59, _ => s35_59 neg t nl cs
  | 60, _ => s35_60 neg t nl cs
  | 61, _ => s35_61 neg t nl cs
  | 62, _ => s35_62 neg t nl cs
  | 63, _ => s35_63 neg t nl cs
  | n + 64, h => absurd h (by omega)
end
def sndG (neg : Bool) (cs : List AV) (n : Nat) : Bool := Nat.ble n 64 && (limbsOk n cs && (match n with | 0 => !neg | k + 1 => match cs[k]? with | some (.int .u32 z) => !eqI z 0 | _ => false))
theorem limbsOk_plains {n : Nat} {cs : List AV} (h : limbsOk n cs = true) : AV.plains cs = true := by
  unfold limbsOk at h
  rw [Bool.and_eq_true, Bool.and_eq_true] at h
  obtain ⟨_, h2, h⟩ := h
  clear h2
  induction cs with
  | nil => rfl
  | cons a l ih =>
    rw [List.all_cons, Bool.and_eq_true] at h
    obtain ⟨z, rfl, _⟩ := isLimb_eq h.1
    show (true && AV.plains l) = true
    rw [ih h.2]; rfl
def F35g : List AV → Option (Bool × AV)
  | [.agg [.bool neg, .lst cs n _ _]] => some (sndG neg cs n, .bool true)
  | _ => none
theorem kX35 : KnownOk Tryz.prog G0 X35 := (KnownOk.none _ _).add k122
theorem kY35 {β : Type} : KnownKOk X35 (Y35 : KnownK β) := addH' (KnownKOk.none _) 122 (zK_le F122)
theorem k35g : ZOk Tryz.prog G0 35 F35g := z_known (D := noLive) (m := 3) (loops := 0) (n := 5) hm hn G0_plain kX35 kY35 fun ar x hF => by
  unfold F35g at hF
  split at hF
  case h_2 => cases hF
  rename_i neg cs n t nl
  simp only [Option.some.injEq, Prod.mk.injEq] at hF
  obtain ⟨h1, rfl⟩ := hF
  unfold sndG at h1
  rw [Bool.and_eq_true, Bool.and_eq_true] at h1
  obtain ⟨h2, h3, h4⟩ := h1
  have hn64 := Nat.le_of_ble_eq_true h2
  cases n with
  | zero =>
    have : neg = false := by simpa using h4
    subst this
    exact s35z false t nl cs
  | succ k =>
    have hs := s35 neg t nl cs k (by omega)
    unfold s35P at hs
    refine hs.trans ?_
    obtain ⟨_, h5, h6⟩ := limbsOk_eq h3
    obtain ⟨z, e, _, _⟩ := h6 k (by omega)
    have hnn : nonNil cs = true := by
      cases cs with
      | nil => simp at e
      | cons => rfl
    simp only [e] at h4
    rw [hnn, e]
    show byB (!eqI z 0) (ifK (AV.plains cs) (ifK (limbsOk (k + 1) cs) _)) _ = _
    rw [h4, limbsOk_plains h3, h3]; rfl
end Go.Am.Sto
end
section
namespace Go.Am.Txt
open Go Go.Am Go.Proofs Go.Am.Sto
/-! ## What is called -/
theorem GU_0 {E : Env} {w : World} (h : GlobOk E (GU H0) w) : GlobOk E G0 w := ⟨⟨fun _ _ h => (by cases h), fun _ _ h => (by cases h)⟩, h.2⟩
theorem GU_2 {E : Env} {w : World} (h : GlobOk E (GU H0) w) : GlobOk E G2 w := by
  refine ⟨⟨fun g cs hg => ?_, fun g n hg => ?_⟩, h.2⟩
  · unfold G2 at hg
    simp only at hg
    split at hg
    · exact h.1.1 3 cs hg
    · exact h.1.1 4 cs hg
    · cases hg
  · unfold G2 at hg
    simp only at hg
    split at hg
    · exact h.1.2 4 n hg
    · cases hg
def hdI (n : Int) : Nat := (itoaN n).headD 0
def tlI (n : Int) : List Nat := (itoaN n).tail
def rpI (n : Int) : List Nat := List.replicate n.toNat 48
theorem hd_tl {n : Int} (h : inR n = true) : hdI n :: tlI n = itoaN n := by
  unfold hdI tlI
  have := itoaN_ne h
  cases hi : itoaN n with
  | nil => exact absurd hi this
  | cons a l => rfl
theorem k35u : ZOk Tryz.prog (GU H0) 35 (F35n sndG) := fun ar s E w vs h1 h2 h3 => by
  have k := k35g ar s E w vs h1 (GU_0 h2) h3
  have e : F35n sndG = F35g := by
    funext ar
    unfold F35n F35g
    rfl
  rw [e]; exact k
theorem k126u : WOk Tryz.prog (GU H0) 126 (F126n hdI tlI) := by
  intro ar s E w vs h1 h2 h3
  have k := k126 ar s E w vs h1 (GU_2 h2) h3
  unfold wX
  rcases Bool.eq_false_or_eq_true (AV.plains ar) with hp | hp
  rotate_left
  · rw [cond_of_false hp]; trivial
  rw [cond_of_true hp]
  unfold F126n
  split
  case h_2 => trivial
  rename_i p hp2
  split at hp2
  case h_2 => cases hp2
  rename_i n
  cases hp2
  cases hr : inR n with
  | false =>
    have : (leI 0 n && leI n 999999999) = false := hr
    simp only [this, cond_false]; trivial
  | true =>
    have hr' : (leI 0 n && leI n 999999999) = true := hr
    simp only [hr', cond_true]
    rw [hd_tl hr]
    unfold pureX F126 at k
    simp only [hr', cond_true] at k
    exact k
theorem k128u : WOk Tryz.prog (GU H0) 128 (F128n rpI) := by
  intro ar s E w vs h1 h2 h3
  have k := k128 ar s E w vs h1 (GU_0 h2) h3
  unfold wX
  rcases Bool.eq_false_or_eq_true (AV.plains ar) with hp | hp
  rotate_left
  · rw [cond_of_false hp]; trivial
  rw [cond_of_true hp]
  unfold F128n
  split
  case h_2 => trivial
  rename_i p hp2
  split at hp2
  case h_2 => cases hp2
  rename_i n
  cases hp2
  cases n with
  | negSucc n => trivial
  | ofNat n =>
    cases hr : Nat.ble n 8 with
    | false =>
      have : (leI 0 (.ofNat n) && leI (.ofNat n) 8) = false := by
        rw [show leI (.ofNat n) 8 = false from hr]; simp
      simp only [this, cond_false]; trivial
    | true =>
      have : (leI 0 (.ofNat n) && leI (.ofNat n) 8) = true := by
        rw [show leI (.ofNat n) 8 = true from hr, show leI 0 (.ofNat n) = true from leI_t (Int.natCast_nonneg n)]; rfl
      simp only [this, cond_true]
      unfold pureX F128 at k
      simp only [hr, cond_true] at k
      exact k
theorem kNu : KnownOk Tryz.prog (GU H0) XN := fun f g hf ar s E w vs h1 h2 h3 => kN f g hf ar s E w vs h1 (GU_0 h2) h3
abbrev X60s : Known := X60n sndG hdI tlI rpI
theorem kX60u : KnownOk Tryz.prog (GU H0) X60s := ((kNu.add k35u).add k126u).add k128u
theorem kXN_K {β : Type} : KnownKOk XN (KnownK.none : KnownK β) := by
  intro f h hf; cases hf
theorem kY60u {β : Type} : KnownKOk X60s (Y60n sndG hdI tlI rpI : KnownK β) := addY (addY (addY kXN_K 35 (zK_le _)) 126 (wK_le _)) 128 (rep128K_le _)
/-! ## The loop -/
def u32N (l : List Nat) : List AV := l.map fun (x : Nat) => AV.int .u32 (.ofNat x)
def pad9 (x : Nat) : List Nat := List.replicate (9 - (itoaN (.ofNat x)).length) 48 ++ itoaN (.ofNat x)
def lowT (l : List Nat) : List Nat := l.reverse.flatMap pad9
def LIM : Nat := 1000000000
theorem u32N_len (l : List Nat) : (u32N l).length = l.length := by simp [u32N]
theorem u32N_get (l : List Nat) (i : Nat) : (u32N l)[i * 1]? = (l[i]?).map fun x => AV.int .u32 (.ofNat x) := by rw [Nat.mul_one, u32N, List.getElem?_map]
theorem u32N_unders (b : Nat) : ∀ l : List Nat, AV.unders b (u32N l) = true
  | [] => rfl
  | _ :: l => u32N_unders b l
theorem u32N_plains : ∀ l : List Nat, AV.plains (u32N l) = true
  | [] => rfl
  | _ :: l => u32N_plains l
theorem bytesA_single : ∀ l : List Nat, (bytesA l).all AV.single = true
  | [] => rfl
  | a :: l => by
    show (true && (bytesA l).all AV.single) = true
    rw [bytesA_single l]; rfl
theorem bt_eq (l : List Nat) : bt l = bytesA l := by unfold bt; rw [List.take_length]
theorem inR_of {x : Nat} (h : x < LIM) : inR (.ofNat x) = true := inR_iff.2 ⟨Int.natCast_nonneg x, by unfold LIM at h; simp only [Int.ofNat_eq_natCast]; omega⟩
theorem putB_ok {lo : Bool} {b : Nat} {r s : List Nat} {fin : List AV → Option AV} (hlo : lo = true) (hs : (b :: r).length + s.length ≤ BIG) : putB lo r.length (bytesA (b :: r)) s fin = fin (bytesA (b :: r ++ s)) := by
  unfold putB last60
  rw [bt_eq, bytesA_single, Nat.ble_eq_true_of_le (show r.length + 1 + s.length ≤ BIG from hs), cutN_self1 (C := bytesA (b :: r)) (by rw [bytesA_len]; rfl), hlo]
  show ifK (newest _ _) (optK _ (cutN ((r.length + 1 + s.length) * 1) 0 (bytesA (b :: r) ++ bytesA s))) = _
  rw [newest_ok, ← bytes_app, cutN_self1 (by rw [bytesA_len, List.length_append]; rfl)]
  show ifK (nonNil (bytesA (b :: r ++ s)) && AV.plains (bytesA (b :: r ++ s))) _ = _
  rw [bytesA_plains, bytesA_ne (by simp)]; rfl
theorem putC2_ok {lo : Bool} {b : Nat} {r p s : List Nat} {fin fin2 : List AV → Option AV} (hlo : lo = true) (hs : (b :: r).length + p.length + s.length ≤ BIG) (hf : p = [] → fin = fin2) : putC2 lo r.length (bytesA (b :: r)) p s fin fin2 = fin2 (bytesA (b :: r ++ p ++ s)) := by
  rw [List.length_cons] at hs
  cases p with
  | nil =>
    have h1 : putC2 lo r.length (bytesA (b :: r)) [] s fin fin2 = ifK (Nat.ble (r.length + 1) BIG) (putB lo r.length (bytesA (b :: r)) s fin) := rfl
    rw [h1, Nat.ble_eq_true_of_le (by simp only [List.length_nil] at hs; omega), hf rfl]
    show putB _ _ _ _ _ = _
    rw [putB_ok hlo (by rw [List.length_cons]; simp only [List.length_nil] at hs; omega), List.append_nil]
  | cons q p =>
    unfold putC2 last60
    rw [bt_eq, bt_eq, bytesA_single, bytesA_single, Nat.ble_eq_true_of_le (show r.length + 1 + (q :: p).length ≤ BIG by omega), cutN_self1 (C := bytesA (b :: r)) (by rw [bytesA_len]; rfl), hlo,
      Nat.ble_eq_true_of_le (show r.length + 1 + (q :: p).length + s.length ≤ BIG by omega)]
    show ifK (Nat.beq (fam1 _ _) _) (optK _ (cutN ((r.length + 1 + (q :: p).length) * 1) 0 (bytesA (b :: r) ++ bytesA (q :: p)))) = _
    rw [Nat.beq_refl, ← bytes_app, cutN_self1 (C := bytesA (b :: r ++ q :: p)) (by rw [bytesA_len, List.length_append]; rfl)]
    show ifK (Nat.beq (fam2 _ _ _) _) (optK _ (cutN ((r.length + 1 + (q :: p).length + s.length) * 1) 0 (bytesA (b :: r ++ q :: p) ++ bytesA s))) = _
    rw [Nat.beq_refl, ← bytes_app, cutN_self1 (C := bytesA (b :: r ++ q :: p ++ s)) (by rw [bytesA_len, List.length_append, List.length_append]; rfl)]
    show ifK (nonNil (bytesA (b :: r ++ q :: p ++ s)) && AV.plains (bytesA (b :: r ++ q :: p ++ s))) _ = _
    rw [bytesA_plains, bytesA_ne (by simp)]; rfl
abbrev L60s (P : Program) (N : Nat) : T → St → Option AV := L60 sndG hdI tlI rpI H0 P N
theorem main60 {ls : List Nat} {t nl neg : Bool} (hl : ∀ x ∈ ls, x < LIM) (hlen : ls.length ≤ 1000) : ∀ (k N : Nat) (b : Nat) (r : List Nat), k < ls.length → k + 1 ≤ N → (∀ c ∈ b :: r, c < 256) → (b :: r).length + 18 * k ≤ 100000 →
    L60s Tryz.prog N (t60 (W (.ofNat k - 1))) (s60b neg (.lst (u32N ls) ls.length t nl) r.length (bytesA (b :: r))) = some (.str (b :: r ++ lowT (ls.take k)))
  | 0, N, b, r, h1, h2, h3, h4 => by
    obtain ⟨M, rfl⟩ : ∃ M, N = M + 1 := ⟨N - 1, by omega⟩
    refine (end60 sndG hdI tlI rpI H0 (u32N ls) ls.length r.length M t nl neg (bytesA (b :: r))).trans ?_
    rw [List.length_cons] at h4
    have hs : (AV.same (.sl 2 0 (r.length + 1) 1 false) (.sl 2 0 (r.length + 1) 1 false) && true) = true := by
      show ((Nat.beq (r.length + 1) (r.length + 1) && true) && true) = true
      rw [Nat.beq_refl]; rfl
    rw [hs, Nat.ble_eq_true_of_le (by omega), cutN_self (C := bytesA (b :: r)) (by rw [bytesA_len]; rfl)]
    show optK _ (bytesOf (bytesA (b :: r))) = _
    rw [bytes_all h3]
    simp [optK, lowT, ifK]
  | k + 1, N, b, r, h1, h2, h3, h4 => by
    obtain ⟨M, rfl⟩ : ∃ M, N = M + 1 := ⟨N - 1, by omega⟩
    have e1 : W (.ofNat (k + 1) - 1) = .ofNat k := by
      have : (Int.ofNat (k + 1) - 1) = .ofNat k := by simp only [Int.ofNat_eq_natCast]; omega
      rw [this]; exact wI (by omega)
    rw [e1]
    obtain ⟨x, hx⟩ : ∃ x, ls[k]? = some x := ⟨_, List.getElem?_eq_getElem (by omega)⟩
    have hxl := hl x (List.mem_of_getElem? hx)
    have hir := inR_of hxl
    unfold LIM at hxl
    have hn : nonNil (u32N ls) = true := by cases ls with | nil => simp at h1 | cons => rfl
    refine (step60b sndG hdI tlI rpI H0 (u32N ls) ls.length k r.length M t nl neg (bytesA (b :: r))).trans ?_
    rw [show Nat.blt k ls.length = true from Nat.ble_eq_true_of_le (by omega), hn, u32N_get, hx]
    show ifK (leI 0 (W (.ofNat x)) && leI (W (.ofNat x)) 999999999) _ = _
    have ew : W (.ofNat x) = .ofNat x := wI (by omega)
    have hlim : (leI 0 (Int.ofNat x) && leI (.ofNat x) 999999999) = true := hir
    have el : W (Int.ofNat ls.length - 1) = .ofNat (ls.length - 1) := by
      have : (Int.ofNat ls.length - 1) = .ofNat (ls.length - 1) := by simp only [Int.ofNat_eq_natCast]; omega
      rw [this]; exact wI (by omega)
    have hlt : (!leI (.ofNat (ls.length - 1)) (.ofNat k)) = true := by rw [leI_f (by simp only [Int.ofNat_eq_natCast]; omega)]; rfl
    have hd9 := itoaN_len hir
    have ep : pad hdI tlI (.ofNat x) = .ofNat (9 - (itoaN (.ofNat x)).length) := by
      unfold pad
      rw [ew, hd_tl hir]
      have : (9 - Int.ofNat (itoaN (.ofNat x)).length) = .ofNat (9 - (itoaN (.ofNat x)).length) := by
        generalize (itoaN (.ofNat x)).length = d at *
        simp only [Int.ofNat_eq_natCast]; omega
      rw [this]; exact wI (by omega)
    have hne := itoaN_ne hir
    have hd1 : 1 ≤ (itoaN (.ofNat x)).length := by
      cases hi : itoaN (.ofNat x) with
      | nil => exact absurd hi hne
      | cons => simp
    have h8 : (leI 0 (Int.ofNat (9 - (itoaN (.ofNat x)).length)) && leI (.ofNat (9 - (itoaN (.ofNat x)).length)) 8) = true := by
      rw [leI_t (b := Int.ofNat (9 - (itoaN (.ofNat x)).length)) (Int.natCast_nonneg _), show leI (.ofNat (9 - (itoaN (.ofNat x)).length)) 8 = true from (show Nat.ble (9 - (itoaN (.ofNat x)).length) 8 = true from Nat.ble_eq_true_of_le (by omega))]; rfl
    have hlo : lo60 neg (.lst (u32N ls) ls.length t nl) = true := by
      show (AV.under 2 (.bool neg) && (AV.under 2 (.lst (u32N ls) ls.length t nl) && true) && true) = true
      have : AV.under 2 (.lst (u32N ls) ls.length t nl) = true := u32N_unders 2 ls
      rw [this]; rfl
    rw [ep, ew, hlim, el, hlt, h8]
    have hrp : rpI (.ofNat (9 - (itoaN (.ofNat x)).length)) = List.replicate (9 - (itoaN (.ofNat x)).length) 48 := rfl
    have htl : (tlI (.ofNat x)).length + 1 = (itoaN (.ofNat x)).length := by rw [← hd_tl hir]; rfl
    show putC2 _ _ _ _ _ _ _ = _
    rw [hrp, hd_tl hir]
    rw [List.length_cons] at h4
    rw [putC2_ok hlo (by simp only [List.length_cons, List.length_replicate]; unfold BIG; omega) (fun e => by
      have : 9 - (itoaN (.ofNat x)).length = 0 := by simpa using congrArg List.length e
      rw [this]; rfl)]
    have hacc : b :: r ++ List.replicate (9 - (itoaN (.ofNat x)).length) 48 ++ itoaN (.ofNat x) = b :: (r ++ pad9 x) := by
      unfold pad9; simp
    rw [hacc]
    have hj : r.length + 1 + (List.replicate (9 - (itoaN (.ofNat x)).length) 48).length + (tlI (.ofNat x)).length = (r ++ pad9 x).length := by
      unfold pad9
      simp only [List.length_append, List.length_replicate]
      omega
    rw [hj]
    have go := main60 (ls := ls) (t := t) (nl := nl) (neg := neg) hl hlen k M b (r ++ pad9 x) (by omega) (by omega) (fun c hc => by
      rcases List.mem_cons.1 hc with rfl | hc
      · exact h3 c (by simp)
      · rcases List.mem_append.1 hc with hc | hc
        · exact h3 c (by simp [hc])
        · unfold pad9 at hc
          rcases List.mem_append.1 hc with hc | hc
          · have := (List.mem_replicate.1 hc).2; omega
          · exact itoaN_lt _ c hc) (by
      simp only [List.length_cons, List.length_append]
      have : (pad9 x).length ≤ 18 := by unfold pad9; simp only [List.length_append, List.length_replicate]; omega
      omega)
    refine go.trans ?_
    rw [List.take_add_one, hx]
    unfold lowT
    simp
end Go.Am.Txt
end
