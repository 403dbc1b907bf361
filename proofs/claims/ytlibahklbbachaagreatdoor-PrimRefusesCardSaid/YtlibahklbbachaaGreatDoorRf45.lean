import Derived.Test.YtlibahklbbachaaGreatDoorRf15
import Derived.Test.YtlibahklbbachaaGreatDoorRf28
import Derived.Test.YtlibahklbbachaaGreatDoorRf32
import Derived.Test.YtlibahklbbachaaGreatDoorRf43
import Derived.Test.YtlibahklbbachaaGreatDoorRf42
set_option autoImplicit false
set_option maxRecDepth 100000
set_option linter.unusedSimpArgs false
set_option linter.unusedVariables false
section
namespace Go.Am.Sto
open Go Go.Am Go.Proofs
def F143 : List AV → Option (Bool × AV)
 | [.int .u64 a, .int .u64 b] => some (eqI a 1 && (leI 0 b && leI b 4096), .tup [.int .u64 0, .int .u64 b])
 | _ => none
def X91 : Known := Known.none.add 143 (zX F143)
def Y91 {β : Type} : KnownK β := KnownK.none.add 143 (zK F143)
def D91 : Live := fun i => match i with | 0 => .keep [7, 8] | _ => .all
def b91 (M : Nat) (P : Program) (x y : Int) (t nl : Bool) (k : Nat) : Option AV := bodyY P G0 X91 Y91 0 5 D91 Res.fresh0? M P.funcs[91]? [.lst [.int .i64 x, .int .i64 y] 1 t nl, .int .i64 (.ofNat k)] St.empty
def L91 (M : Nat) (P : Program) (rounds : Nat) : T → St → Option AV := runLoop P G0 X91 Y91 0 5 D91 Res.fresh0? M 91 (.keep [7, 8]) 1 rounds
def sRep (C : List AV) (e : Nat) : St := ⟨1, Tr.nil.set 0 (.row { vals := C, root := 0, pos := 0, ep := 0, fep := 0, ext := e, solo := true, ty := 29 })⟩
def tRep (k : Nat) (tt : Bool) (n : Int) : T := tOf 48 [(7, .sl 0 0 k 2 tt), (8, .int .i64 n)]
abbrev z2 : List AV := [.int .i64 0, .int .i64 0]
abbrev cnt (k : Nat) : Int := IntKind.i64.wrap (IntKind.u64.wrap (.ofNat k))
theorem s91 (M : Nat) (x y : Int) (t : Bool) (k : Nat) : b91 M Tryz.prog x y t false k = ifK (leI 0 (IntKind.u64.wrap (.ofNat k)) && leI (IntKind.u64.wrap (.ofNat k)) 4096) (
  byB (!leI (IntKind.u64.wrap (.ofNat k)) 9223372036854775807) none (optK (fun l => optK (fun c => ifK (Nat.ble l c && Nat.ble c 1073741824)
   (byB ((Nat.min 1 l).beq 0) (L91 M Tryz.prog M (tRep l (l.beq c) 0) (sRep (replic l z2) (replic l z2).length))
    (optK (fun new => ifK (new.all AV.single) (optK (fun C => L91 M Tryz.prog M (tRep l (l.beq c) (.ofNat (Nat.min 1 l))) (sRep C (replic l z2).length)) (overwrite (replic l z2) 0 new))) (takeN (Nat.min 1 l * 2) [.int .i64 x, .int .i64 y]))))
   (natOf (.int .i64 (cnt k)))) (natOf (.int .i64 (cnt k))))) := by kernel_rfl
theorem step91 (M N : Nat) (tt : Bool) (k n e : Nat) (C : List AV) : L91 M Tryz.prog (N + 1) (tRep k tt (.ofNat n)) (sRep C e) =
  byB (!leI (.ofNat k) (.ofNat n))
   (ifK (Nat.ble n k && Nat.ble k k && true) (ifK (Nat.ble 0 n && Nat.ble n k && true) (byB ((Nat.min (n - 0) (k - n)).beq 0) (L91 M Tryz.prog N (tRep k tt (IntKind.i64.wrap (.ofNat n + 0))) (sRep C e))
    (optK (fun new => ifK (new.all AV.single) (optK (fun C2 => L91 M Tryz.prog N (tRep k tt (IntKind.i64.wrap (.ofNat n + .ofNat (Nat.min (n - 0) (k - n))))) (sRep C2 e)) (overwrite C (0 + n * 2) new)))
     (elemsN 2 (Nat.min (n - 0) (k - n)) (.sl 0 (0 + 0 * 2) (n - 0) 2 (tt && Nat.beq n k)) (sRep C e))))))
   (byB (Nat.beq k 0) (some (.lst [] 0 tt false)) (optK (fun v => ifK (Nat.blt 0 k && AV.flats v) (some (.lst v k tt false))) (cutN (k * 2) 0 C))) := by kernel_rfl
end Go.Am.Sto
end
section
namespace Go.Am.Sto
open Go Go.Am Go.Proofs
theorem replic_cells : ∀ k : Nat, replic k z2 = cellsA (List.replicate k ((0 : Int), (0 : Int)))
 | 0 => rfl
 | k + 1 => by
  show z2 ++ replic k z2 = cellsA ((0, 0) :: List.replicate k (0, 0))
  rw [replic_cells k]; rfl
theorem cellsA_take2 : ∀ (l : List V2) (m : Nat), (cellsA l).take (m * 2) = cellsA (l.take m)
 | [], m => by simp [cellsA]
 | p :: l, 0 => by simp [cellsA]
 | p :: l, m + 1 => by
  rw [show (m + 1) * 2 = m * 2 + 1 + 1 by omega]
  simp only [cellsA, List.take_succ_cons]
  rw [cellsA_take2 l m]
theorem ow_0 : ∀ (l l2 : List V2), l2.length ≤ l.length → overwrite (cellsA l) 0 (cellsA l2) = some (cellsA (l2 ++ l.drop l2.length))
 | l, [], _ => by cases l <;> simp [cellsA, overwrite]
 | [], _ :: _, h => by simp at h
 | p :: l, q :: l2, h => by
  have ih := ow_0 l l2 (by simpa using h)
  simp only [cellsA, overwrite, ih, List.cons_append, List.length_cons, List.drop_succ_cons]
theorem ow_n : ∀ (n : Nat) (l l2 : List V2), n + l2.length ≤ l.length → ∃ l3, overwrite (cellsA l) (n * 2) (cellsA l2) = some (cellsA l3) ∧ l3.length = l.length ∧ ∀ v ∈ l3, v ∈ l ∨ v ∈ l2
 | 0, l, l2, h => by
  refine ⟨l2 ++ l.drop l2.length, by rw [Nat.zero_mul]; exact ow_0 l l2 (by omega), by rw [List.length_append, List.length_drop]; omega, fun v hv => ?_⟩
  rcases List.mem_append.1 hv with h1 | h1
  ·exact .inr h1
  ·exact .inl (List.mem_of_mem_drop h1)
 | n + 1, [], l2, h => by simp at h
 | n + 1, p :: l, l2, h => by
  obtain ⟨l3, e1, e2, e3⟩ := ow_n n l l2 (by simp only [List.length_cons] at h; omega)
  refine ⟨p :: l3, ?_, by simp [e2], fun v hv => ?_⟩
  ·rw [show (n + 1) * 2 = n * 2 + 1 + 1 by omega]
   simp only [cellsA, overwrite, e1]
  ·rcases List.mem_cons.1 hv with rfl | hv
   ·exact .inl (by simp)
   ·rcases e3 v hv with h1 | h1
    ·exact .inl (by simp [h1])
    ·exact .inr h1
def Fl (p : V2) (k : Nat) (l : List V2) : Prop := l.length = k ∧ ∀ v ∈ l, v = p ∨ v = (0, 0)
theorem wrap_nm {n m : Nat} (h : n + m < 100000) : IntKind.i64.wrap (.ofNat n + .ofNat m) = .ofNat (n + m) := wrap64 (by simp only [Int.ofNat_eq_natCast]; omega) (by simp only [Int.ofNat_eq_natCast]; omega)
theorem main91 (M e : Nat) (tt : Bool) (p : V2) {k : Nat} (hk : k ≤ 4096) : ∀ (rem n N : Nat) (l : List V2), n + rem = k → 1 ≤ n → rem < N → Fl p k l → ∃ l2, L91 M Tryz.prog N (tRep k tt (.ofNat n)) (sRep (cellsA l) e) = some (.lst (cellsA l2) k tt false) ∧ Fl p k l2 := by
 intro rem
 induction rem using Nat.strongRecOn with
 | _ rem ih =>
 intro n N l h1 h2 h3 h4
 obtain ⟨N, rfl⟩ : ∃ X, N = X + 1 := ⟨N - 1, by omega⟩
 rw [step91]
 by_cases hr : rem = 0
 ·have hnk : n = k := by omega
  subst hnk
  refine ⟨l, ?_, h4⟩
  refine (byB_f (by rw [leI_t (Int.le_refl _)]; rfl) _ _).trans ?_
  refine (byB_f (by cases n with | zero => omega | succ n => rfl) _ _).trans ?_
  rw [cellsA_cut l n h4.1]
  exact ifK_t (by rw [cellsA_flats, blt_t (show 0 < n by omega)]; rfl) _
 ·have hnk : n < k := by omega
  refine Exists.imp (fun l2 h => ⟨?_, h.2⟩) (p := fun l2 => (optK (fun new => ifK (new.all AV.single) (optK (fun C2 => L91 M Tryz.prog N (tRep k tt (IntKind.i64.wrap (.ofNat n + .ofNat (Nat.min (n - 0) (k - n))))) (sRep C2 e)) (overwrite (cellsA l) (0 + n * 2) new)))
     (elemsN 2 (Nat.min (n - 0) (k - n)) (.sl 0 (0 + 0 * 2) (n - 0) 2 (tt && Nat.beq n k)) (sRep (cellsA l) e))) = some (.lst (cellsA l2) k tt false) ∧ Fl p k l2) ?_
  ·refine (byB_t (by rw [leI_f (show Int.ofNat n < Int.ofNat k by simp only [Int.ofNat_eq_natCast]; omega)]; rfl) _ _).trans ?_
   refine (ifK_t (by rw [Nat.ble_eq_true_of_le (show n ≤ k by omega), Nat.ble_eq_true_of_le (Nat.le_refl k)]; rfl) _).trans ?_
   refine (ifK_t (by rw [Nat.ble_eq_true_of_le (Nat.zero_le n), Nat.ble_eq_true_of_le (show n ≤ k by omega)]; rfl) _).trans ?_
   have hm : (Nat.min (n - 0) (k - n)).beq 0 = false := by
    have h5 : 1 ≤ Nat.min (n - 0) (k - n) := Nat.le_min.2 ⟨by omega, by omega⟩
    generalize Nat.min (n - 0) (k - n) = m at h5
    cases m with
    | zero => omega
    | succ m => rfl
   exact (byB_f hm _ _).trans h.1
  ·have h5 : 1 ≤ Nat.min (n - 0) (k - n) := Nat.le_min.2 ⟨by omega, by omega⟩
   have h6 : Nat.min (n - 0) (k - n) ≤ n := Nat.le_trans (Nat.min_le_left _ _) (by omega)
   have h7 : Nat.min (n - 0) (k - n) ≤ k - n := Nat.min_le_right _ _
   generalize Nat.min (n - 0) (k - n) = m at h5 h6 h7
   have he : elemsN 2 m (.sl 0 (0 + 0 * 2) (n - 0) 2 (tt && Nat.beq n k)) (sRep (cellsA l) e) = some (cellsA (l.take m)) := by
    have hb : m.beq 0 = false := by cases m with | zero => omega | succ m => rfl
    unfold elemsN
    rw [hb]
    show (bif Nat.ble m (n - 0) then cellsAt (m * 2) (.ptr 0 (0 + 0 * 2)) (sRep (cellsA l) e) else none) = _
    rw [Nat.ble_eq_true_of_le (show m ≤ n - 0 by omega)]
    show cutN (m * 2) 0 (cellsA l) = _
    rw [cutN_take (by rw [cellsA_len, h4.1]; omega), cellsA_take2]
   rw [he]
   show ∃ l2, ifK ((cellsA (l.take m)).all AV.single) _ = _ ∧ _
   rw [cellsA_single]
   have hlen : (l.take m).length = m := by rw [List.length_take, h4.1]; omega
   obtain ⟨l3, e1, e2, e3⟩ := ow_n n l (l.take m) (by rw [hlen, h4.1]; omega)
   show ∃ l2, optK _ (overwrite (cellsA l) (0 + n * 2) (cellsA (l.take m))) = _ ∧ _
   rw [Nat.zero_add, e1]
   show ∃ l2, L91 M Tryz.prog N (tRep k tt (IntKind.i64.wrap (.ofNat n + .ofNat m))) _ = _ ∧ _
   rw [wrap_nm (by omega)]
   refine ih (k - (n + m)) (by omega) (n + m) N l3 (by omega) (by omega) (by omega) ⟨by rw [e2]; exact h4.1, fun v hv => ?_⟩
   rcases e3 v hv with h | h
   ·exact h4.2 v h
   ·exact h4.2 v (List.mem_of_mem_take h)
theorem cnt_eq {k : Nat} (h : k ≤ 4096) : cnt k = .ofNat k := by
 unfold cnt
 rw [show IntKind.u64.wrap (Int.ofNat k) = Int.ofNat k from w64 (by simp only [Int.ofNat_eq_natCast]; omega) (by simp only [Int.ofNat_eq_natCast]; omega)]
 exact wrap64 (by simp only [Int.ofNat_eq_natCast]; omega) (by simp only [Int.ofNat_eq_natCast]; omega)
theorem b91_ok (x y : Int) (t : Bool) {k : Nat} (hk : k ≤ 4096) : ∃ l, b91 5000 Tryz.prog x y t false k = some (.lst (cellsA l) k true false) ∧ Fl (x, y) k l := by
 rw [s91]
 have hu : IntKind.u64.wrap (Int.ofNat k) = Int.ofNat k := w64 (by simp only [Int.ofNat_eq_natCast]; omega) (by simp only [Int.ofNat_eq_natCast]; omega)
 have e1 : (!leI (IntKind.u64.wrap (Int.ofNat k)) 9223372036854775807) = false := by rw [hu, leI_t (by simp only [Int.ofNat_eq_natCast]; omega)]; rfl
 rw [e1, cnt_eq hk, hu, leI_t (show (0 : Int) ≤ Int.ofNat k by simp only [Int.ofNat_eq_natCast]; omega), leI_t (show Int.ofNat k ≤ (4096 : Int) by simp only [Int.ofNat_eq_natCast]; omega)]
 show ∃ l, ifK (Nat.ble k k && Nat.ble k 1073741824) (byB ((Nat.min 1 k).beq 0) (L91 5000 Tryz.prog 5000 (tRep k (k.beq k) 0) (sRep (replic k z2) (replic k z2).length)) _) = _ ∧ _
 rw [Nat.ble_eq_true_of_le (Nat.le_refl k), Nat.ble_eq_true_of_le (show k ≤ 1073741824 by omega), Nat.beq_refl]
 generalize (replic k z2).length = e
 rw [replic_cells]
 cases k with
 | zero =>
  refine ⟨[], ?_, rfl, fun v hv => by cases hv⟩
  show L91 5000 Tryz.prog (4999 + 1) (tRep 0 true (.ofNat 0)) (sRep (cellsA (List.replicate 0 (0, 0))) e) = _
  rw [step91]; rfl
 | succ k =>
  have hm : Nat.min 1 (k + 1) = 1 := Nat.min_eq_left (by omega)
  rw [hm]
  show ∃ l, optK _ (overwrite (cellsA (List.replicate (k + 1) (0, 0))) 0 (cellsA [(x, y)])) = _ ∧ _
  rw [ow_0 _ [(x, y)] (by simp)]
  show ∃ l, L91 5000 Tryz.prog 5000 (tRep (k + 1) true (.ofNat 1)) (sRep (cellsA ((x, y) :: List.replicate k (0, 0))) e) = _ ∧ _
  obtain ⟨l2, q1, q2⟩ := main91 5000 e true (x, y) hk k 1 5000 ((x, y) :: List.replicate k (0, 0)) (by omega) (by omega) (by omega) ⟨by simp, fun v hv => by
   rcases List.mem_cons.1 hv with rfl | hv
   ·exact .inl rfl
   ·exact .inr (List.mem_replicate.1 hv).2⟩
  exact ⟨l2, q1, q2⟩
/-! ## Contract -/
def lstO (x : Option AV) : List AV := match x with | some (.lst l _ _ _) => l | _ => []
def rc91 (cs : List AV) (z : Int) : Bool := match cs, z with | [.int .i64 _, .int .i64 _], .ofNat k => Nat.ble k 4096 | _, _ => false
def rl91 (P : Program) (cs : List AV) (z : Int) : List AV := match cs, z with | [.int .i64 x, .int .i64 y], .ofNat k => lstO (b91 5000 P x y false false k) | _, _ => []
/-! ## A product with one -/
abbrev sh32 (x : Int) : Int := x.fdiv (2 ^ min (Int.toNat 32) IntKind.u64.bits)
abbrev an32 (x : Int) : Int := IntKind.u64.wrap (((BitVec.ofInt IntKind.u64.bits x &&& BitVec.ofInt IntKind.u64.bits 4294967295).toNat : Nat) : Int)
def hi143 (z : Int) : Int := U64 (U64 (U64 (sh32 1 * sh32 z) + sh32 (U64 (U64 (sh32 1 * an32 z) + sh32 (U64 (an32 1 * an32 z))))) + sh32 (U64 (an32 (U64 (U64 (sh32 1 * an32 z) + sh32 (U64 (an32 1 * an32 z)))) + U64 (an32 1 * sh32 z))))
theorem t143 (k : Nat) : bodyY Tryz.prog G0 .none (.none : KnownK AV) 0 5 noLive Res.fresh0? 3 Tryz.prog.funcs[143]? [.int .u64 1, .int .u64 (.ofNat k)] St.empty = some (.tup [.int .u64 (hi143 (.ofNat k)), .int .u64 (U64 (1 * .ofNat k))]) := by kernel_rfl
def allHi : Nat → Bool
 | 0 => eqI (hi143 (.ofNat 0)) 0
 | n + 1 => eqI (hi143 (.ofNat (n + 1))) 0 && allHi n
theorem allHi_t : allHi 4096 = true := by kernel_rfl
theorem hi_0 : ∀ (n k : Nat), allHi n = true → k ≤ n → hi143 (.ofNat k) = 0
 | 0, k, h, hk => by
  obtain rfl : k = 0 := by omega
  exact eqI_is h
 | n + 1, k, h, hk => by
  have h : (eqI (hi143 (.ofNat (n + 1))) 0 && allHi n) = true := h
  rw [Bool.and_eq_true] at h
  by_cases e : k = n + 1
  ·subst e; exact eqI_is h.1
  ·exact hi_0 n k h.2 (by omega)
theorem k143 : ZOk Tryz.prog G0 143 F143 := z_known (D := noLive) (m := 3) (loops := 0) (n := 5) hm hn G0_plain (KnownOk.none _ _) (KnownKOk.none _) fun ar x hF => by
 unfold F143 at hF
 split at hF
 case h_2 => cases hF
 rename_i a b
 simp only [Option.some.injEq, Prod.mk.injEq] at hF
 obtain ⟨h1, rfl⟩ := hF
 rw [Bool.and_eq_true, Bool.and_eq_true, leI_iff, leI_iff, decide_eq_true_iff, decide_eq_true_iff] at h1
 obtain ⟨h1, h2, h3⟩ := h1
 have := eqI_is h1
 subst this
 obtain ⟨k, rfl⟩ : ∃ k : Nat, b = .ofNat k := ⟨b.toNat, by simp only [Int.ofNat_eq_natCast]; omega⟩
 have hk : k ≤ 4096 := by simp only [Int.ofNat_eq_natCast] at h3; omega
 refine (t143 k).trans ?_
 rw [hi_0 4096 k allHi_t hk, Int.one_mul, show U64 (Int.ofNat k) = Int.ofNat k from w64 (by simp only [Int.ofNat_eq_natCast]; omega) (by simp only [Int.ofNat_eq_natCast]; omega)]
/-! ## Repeat -/
theorem kX91 : KnownOk Tryz.prog G0 X91 := (KnownOk.none _ _).add k143
theorem kY91 {β : Type} : KnownKOk X91 (Y91 : KnownK β) := addH' (KnownKOk.none _) 143 (zK_le _)
def F91t (P : Program) : List AV → Option (Bool × AV)
 | [.lst [.int .i64 x, .int .i64 y] 1 _ false, .int .i64 (.ofNat k)] => some (Nat.ble k 4096, .lst (lstO (b91 5000 P x y false false k)) k true false)
 | _ => none
section
variable (rc : List AV → Int → Bool) (rl : List AV → Int → List AV) (rk : Int → Nat)
def F91v : List AV → Option (Bool × AV)
 | [.lst cs 1 _ false, .int .i64 z] => some (rc cs z, .lst (rl cs z) (rk z) false false)
 | _ => none
end
theorem b91_t (x y : Int) (t : Bool) (k : Nat) : b91 5000 Tryz.prog x y t false k = b91 5000 Tryz.prog x y false false k := (s91 5000 x y t k).trans (s91 5000 x y false k).symm
theorem k91t : ZOk Tryz.prog G0 91 (F91t Tryz.prog) := z_known (D := D91) (m := 5000) (loops := 0) (n := 5) hm hn G0_plain kX91 kY91 fun ar x hF => by
 unfold F91t at hF
 split at hF
 case h_2 => cases hF
 rename_i a b t k
 simp only [Option.some.injEq, Prod.mk.injEq] at hF
 obtain ⟨h1, rfl⟩ := hF
 obtain ⟨l, e, hl⟩ := b91_ok a b false (Nat.le_of_ble_eq_true h1)
 show b91 5000 Tryz.prog a b t false k = _
 rw [b91_t, e]; rfl
def rk91' (z : Int) : Nat := z.toNat
theorem k91 : ZOk Tryz.prog G0 91 (F91v rc91 (rl91 Tryz.prog) rk91') := z_loose k91t fun ar x hF => by
 unfold F91v at hF
 split at hF
 case h_2 => cases hF
 rename_i cs t z
 simp only [Option.some.injEq, Prod.mk.injEq] at hF
 obtain ⟨h1, rfl⟩ := hF
 unfold rc91 at h1
 split at h1
 case h_2 => cases h1
 rename_i a b k
 refine ⟨.lst (lstO (b91 5000 Tryz.prog a b false false k)) k true false, by unfold F91t; simp only [h1], fun E v hv => ?_⟩
 exact hv.untight
theorem rl_ok (x y : Int) {k : Nat} (hk : k ≤ 4096) : ∃ l, rl91 Tryz.prog [.int .i64 x, .int .i64 y] (.ofNat k) = cellsA l ∧ Fl (x, y) k l := by
 obtain ⟨l, e, hl⟩ := b91_ok x y false hk
 refine ⟨l, ?_, hl⟩
 show lstO (b91 5000 Tryz.prog x y false false k) = _
 rw [e]; rfl
end Go.Am.Sto
end
section
namespace Go.Am.Sto
open Go Go.Am Go.Proofs
def D41w : Live := fun i => match i with | 0 => .pack [0, 1, 7, 8] | _ => .all
def L41w (P : Program) (rounds : Nat) : T → St → Option AV := runLoop P G0 XS YS 5 8 D41w Res.val? 5000 41 (.pack [0, 1, 7, 8]) 0 rounds
section
variable (L U : Int) (os cs : List AV) (m i : Nat) (g1 g2 tt nl : Bool) (o1 : AV)
theorem start41w (n : Nat) : bodyY Tryz.prog G0 XS YS 5 8 D41w Res.val? 5000 Tryz.prog.funcs[41]? [.lst cs m tt nl, ask62 (stoV L U os n g1 g2)] St.empty = L41w Tryz.prog 5000 (tIv (.lst cs m tt nl) (ask62 (stoV L U os n g1 g2)) m 0) St.empty := by kernel_rfl
theorem step41w0 (N : Nat) : L41w Tryz.prog (N + 1) (tIv (.lst cs m tt nl) (ask62 (stoV L U os 0 g1 g2)) m (.ofNat i)) St.empty =
  byB (!leI (.ofNat m) (.ofNat i)) (ifK (Nat.blt i m && nonNil cs) (opt2 (fun a b => ifK (AV.plain (stoV L U os 0 g1 g2)) (byB (sndB 0 a b) (ifK (AV.under 0 (.lst cs m tt nl)) (ifK (AV.under 0 (ask62 (stoV L U os 0 g1 g2))) (L41w Tryz.prog N (tIv (.lst cs m tt nl) (ask62 (stoV L U os 0 g1 g2)) m (IntKind.i64.wrap (.ofNat i + 1))) St.empty))) (some (.int .i64 (.ofNat i))))) (cutN 2 (i * 2) cs)))
   (some (.int .i64 (-1))) := by kernel_rfl
theorem step41w1 (N n : Nat) : L41w Tryz.prog (N + 1) (tIv (.lst cs m tt nl) (ask62 (stoV L U (o1 :: os) (n + 1) g1 g2)) m (.ofNat i)) St.empty =
  byB (!leI (.ofNat m) (.ofNat i)) (ifK (Nat.blt i m && nonNil cs) (opt2 (fun a b => ifK (AV.plain (stoV L U (o1 :: os) (n + 1) g1 g2)) (byB (sndB (n + 1) a b) (ifK (AV.under 0 (.lst cs m tt nl)) (ifK (AV.under 0 (ask62 (stoV L U (o1 :: os) (n + 1) g1 g2))) (L41w Tryz.prog N (tIv (.lst cs m tt nl) (ask62 (stoV L U (o1 :: os) (n + 1) g1 g2)) m (IntKind.i64.wrap (.ofNat i + 1))) St.empty))) (some (.int .i64 (.ofNat i))))) (cutN 2 (i * 2) cs)))
   (some (.int .i64 (-1))) := by kernel_rfl
end
theorem main41w (L U : Int) (os : List AV) (n : Nat) (g1 g2 : Bool) (hos : n = 0 ∨ ∃ m o r, n = m + 1 ∧ os = o :: r) (l : List V2) (tt nl : Bool) (h : okAll n l = true) (hu : AV.under 0 (ask62 (stoV L U os n g1 g2)) = true) (hp : AV.plain (stoV L U os n g1 g2) = true) : ∀ (N i : Nat), l.length < i + N → i ≤ l.length → l.length ≤ 100000 →
  L41w Tryz.prog N (tIv (.lst (cellsA l) l.length tt nl) (ask62 (stoV L U os n g1 g2)) l.length (.ofNat i)) St.empty = some (.int .i64 (-1))
 | 0, i, h1, h2, _ => absurd h1 (by omega)
 | N + 1, i, h1, h2, h3 => by
  have step : L41w Tryz.prog (N + 1) (tIv (.lst (cellsA l) l.length tt nl) (ask62 (stoV L U os n g1 g2)) l.length (.ofNat i)) St.empty =
   byB (!leI (.ofNat l.length) (.ofNat i)) (ifK (Nat.blt i l.length && nonNil (cellsA l)) (opt2 (fun a b => ifK (AV.plain (stoV L U os n g1 g2)) (byB (sndB n a b) (ifK (AV.under 0 (.lst (cellsA l) l.length tt nl)) (ifK (AV.under 0 (ask62 (stoV L U os n g1 g2))) (L41w Tryz.prog N (tIv (.lst (cellsA l) l.length tt nl) (ask62 (stoV L U os n g1 g2)) l.length (IntKind.i64.wrap (.ofNat i + 1))) St.empty))) (some (.int .i64 (.ofNat i))))) (cutN 2 (i * 2) (cellsA l))))
   (some (.int .i64 (-1))) := by
   rcases hos with rfl | ⟨m, o, r, rfl, rfl⟩
   ·exact step41w0 L U os _ _ i g1 g2 tt nl N
   ·exact step41w1 L U r _ _ i g1 g2 tt nl o N m
  rw [step, leN, hu, hp]
  rcases Nat.lt_or_ge i l.length with hlt | hge
  ·obtain ⟨c1, c2⟩ := cells_cut l i _ (List.getElem?_eq_getElem hlt)
   have hb : Nat.blt i l.length = true := Nat.ble_eq_true_of_le hlt
   have hb2 : Nat.ble l.length i = false := by
    cases hx : Nat.ble l.length i with
    | false => rfl
    | true => have := Nat.le_of_ble_eq_true hx; omega
   have hs : sndB n (l[i]).1 (l[i]).2 = true := List.all_eq_true.1 h _ (List.getElem_mem hlt)
   have hi : IntKind.i64.wrap (Int.ofNat i + 1) = Int.ofNat (i + 1) := by
    rw [wrap64 (by simp only [Int.ofNat_eq_natCast]; omega) (by simp only [Int.ofNat_eq_natCast]; omega)]
    rfl
   rw [hb2, c1, c2, hb]
   show byB (sndB n (l[i]).1 (l[i]).2) (ifK (AV.unders 0 (cellsA l)) (L41w Tryz.prog N (tIv _ _ _ (IntKind.i64.wrap (Int.ofNat i + 1))) _)) _ = _
   rw [hs, cellsA_unders, hi]
   exact main41w L U os n g1 g2 hos l tt nl h hu hp N (i + 1) (by omega) (by omega) h3
  ·have : i = l.length := by omega
   subst this
   rw [Nat.ble_eq_true_of_le (Nat.le_refl _)]
   rfl
def F41w : List AV → Option (Bool × AV)
 | [.lst cs m _ _, .fn (.func 62) [] [.ptrL [.ptrL [.int .i64 L, .int .i64 U, .lst os n g1 g2, .lst [] 0 true true, .undef] 0] 0]] => match n, os with
  | 0, os => some (isCells cs m && (Nat.ble m 4200 && (okAll 0 (ofCells cs) && (AV.under 0 (ask62 (stoV L U os 0 g1 g2)) && AV.plain (stoV L U os 0 g1 g2)))), .int .i64 (-1))
  | n + 1, o :: os => some (isCells cs m && (Nat.ble m 4200 && (okAll (n + 1) (ofCells cs) && (AV.under 0 (ask62 (stoV L U (o :: os) (n + 1) g1 g2)) && AV.plain (stoV L U (o :: os) (n + 1) g1 g2)))), .int .i64 (-1))
  | _, _ => none
 | _ => none
theorem k41w : ViewOk Tryz.prog G0 41 F41w := view_known (D := D41w) (m := 5000) (loops := 5) (n := 8) hm hn G0_plain kXS kYS fun ar x hF => by
 unfold F41w at hF
 split at hF
 ·rename_i cs m tt nl L U os n g1 g2
  have fin : ∀ (os : List AV) (n : Nat), (n = 0 ∨ ∃ m o r, n = m + 1 ∧ os = o :: r) → isCells cs m = true ∧ Nat.ble m 4200 = true ∧ okAll n (ofCells cs) = true ∧ AV.under 0 (ask62 (stoV L U os n g1 g2)) = true ∧ AV.plain (stoV L U os n g1 g2) = true →
    bodyY Tryz.prog G0 XS YS 5 8 D41w Res.val? 5000 Tryz.prog.funcs[41]? [.lst cs m tt nl, ask62 (stoV L U os n g1 g2)] St.empty = some (.int .i64 (-1)) := fun os n hos ⟨h1, h2, h5, h6, h7⟩ => by
   obtain ⟨h3, h4⟩ := isCells_eq h1
   have hm9 : m ≤ 4200 := Nat.le_of_ble_eq_true h2
   rw [start41w]
   have := main41w L U os n g1 g2 hos (ofCells cs) tt nl h5 h6 h7 5000 0 (by omega) (by omega) (by omega)
   rw [← h3, h4] at this
   exact this
  split at hF
  ·simp only [Option.some.injEq, Prod.mk.injEq, Bool.and_eq_true] at hF
   obtain ⟨h1, rfl⟩ := hF
   exact ⟨rfl, fin _ 0 (.inl rfl) h1⟩
  ·simp only [Option.some.injEq, Prod.mk.injEq, Bool.and_eq_true] at hF
   obtain ⟨h1, rfl⟩ := hF
   exact ⟨rfl, fin _ _ (.inr ⟨_, _, _, rfl, rfl⟩) h1⟩
  ·cases hF
 ·cases hF
def XS3 : Known := XS.add 41 (viewX F41w)
def YS3 {β : Type} : KnownK β := YS.add 41 (viewK F41w)
theorem kXS3 : KnownOk Tryz.prog G0 XS3 := kXS.add k41w
theorem kYS3 {β : Type} : KnownKOk XS3 (YS3 : KnownK β) := by
 intro g q hq
 unfold YS3 KnownK.add at hq
 rcases Bool.eq_false_or_eq_true (Nat.beq g 41) with hb | hb
 ·rw [cond_of_true hb] at hq
  cases hq
  exact ⟨viewX F41w, by unfold XS3 Known.add; rw [cond_of_true hb], viewK_le F41w⟩
 ·rw [cond_of_false hb] at hq
  obtain ⟨h, h1, h2⟩ := (kYS (β := β)) g q hq
  exact ⟨h, by unfold XS3 Known.add; rw [cond_of_false hb]; exact h1, h2⟩
def runVec3 (P : Program) (j r q : Nat) (l : List (TypeId × List AV)) (slots : AV) : Option (AV × RowI × RowI × RowI × RowI) :=
 bodyY P G0 XS3 YS3 5 8 noLive (mkR j r q) 5 P.funcs[38]? [.ptr 0 0, .int .i64 2, slots] (St.rows l)
def preW (cs : List AV) (m n : Nat) (s : AV) : Bool := isCells cs m && (Nat.ble m 4200 && (okAll n (ofCells cs) && (AV.under 0 (ask62 s) && AV.plain s)))
section
variable (L U : Int) (tt : Bool) (m : Nat) (cs : List AV)
theorem vec01w : runVec3 Tryz.prog 0 8 4 [(66, sto0 L U)] (.lst cs (m + 1) tt false) =
  ifK (AV.plain (.lst cs (m + 1) tt false)) (ifK (preW cs (m + 1) 0 (stoV L U [] 0 true true)) (ifK (Nat.ble (0 + (m + 1)) 1073741824) (optK (fun new => ifK (new.all AV.single)
   (ifK (chk1 L U) (byB (full L U (0 + (m + 1))) (some (errV 16, some (sto0 L U, 66, true), some (sto0 L U, 66, true), none, some (new, 29, true)))
    (ifK (chk2 U) (some (objV 0, some (sto1 L (pay U (0 + (m + 1))) 8 1, 66, true), some (sto1 L (pay U (0 + (m + 1))) 8 1, 66, true), some (.int .i64 2 :: .sl 4 0 (0 + (m + 1)) 2 false :: rest8, 115, true), some (new, 29, true))))))) (takeN ((m + 1) * 2) cs)))) := by kernel_rfl
end
def F38w (d : Hid) : List AV → Option (Bool × AV × Hid)
 | [.hptr 0, .int .i64 2, .lst cs (m + 1) _ false] => some (isCells cs (m + 1) && (Nat.ble (m + 1) 4200 && (okAll 0 (ofCells cs) && Nat.beq d.rows.length 0)), getV (mkOf d 2 (ofCells cs)).1, (mkOf d 2 (ofCells cs)).2)
 | _ => none
theorem k38w : MethOk Tryz.prog G0 38 F38w := pres_known (D := noLive) (m := 5) (loops := 5) (n := 8) (Sees := Sees) (Ends := Ends) hm hn G0_plain kXS3 sees (fun d b own w l ar x d' hS hF => by
 unfold F38w at hF
 split at hF
 ·rename_i cs m tt
  obtain ⟨L, U, s1, s2, s3, s4, s5, s6⟩ := hS
  simp only [Option.some.injEq, Prod.mk.injEq, Bool.and_eq_true] at hF
  obtain ⟨⟨p1, p2, p3, p0⟩, rfl, rfl⟩ := hF
  obtain ⟨p5, p6⟩ := isCells_eq p1
  have hm9 : m + 1 ≤ 4200 := Nat.le_of_ble_eq_true p2
  have hn0 : d.rows.length = 0 := Nat.eq_of_beq_eq_true p0
  have h7' : d.rows = [] := List.eq_nil_of_length_eq_zero hn0
  generalize hsl : ofCells cs = sl at *
  subst p5
  have hmk : mkOf d 2 sl = byB (full L U (m + 1)) (((0, 0), 16), d) (((7, .ofNat d.rows.length), 0), ⟨0, [L, pay U (m + 1)], d.rows ++ [(2, sl)], []⟩) := by
   unfold mkOf; rw [s2]; simp only [hn0, p3, p6]
  rw [hmk]
  refine ⟨_, rfl, ?_⟩
  have hplain : AV.plains [.int .i64 2, .lst (cellsA sl) (m + 1) tt false] = true := by
   show (AV.plain (.int .i64 2) && (AV.plains (cellsA sl) && true)) = true
   rw [cellsA_plains]; rfl
  refine ⟨hplain, ?_⟩
  have run : ∀ {ll : List (TypeId × List AV)} {slots : AV} {j r q : Nat} {x a b c e}, runVec3 Tryz.prog j r q ll slots = some (x, a, b, c, e) → ∃ s', bodyD Tryz.prog G0 (callN Tryz.prog G0 XS3 5 8) noLive 5 Tryz.prog.funcs[38]? [.ptr 0 0, .int .i64 2, slots] (St.rows ll) = .ret x s' ∧ rowI s' 0 = a ∧ rowI s' j = b ∧ rowI s' r = c ∧ rowI s' q = e := fun h => of_mkR (bodyY_le kYS3 h)
  have hne : sl ≠ [] := fun e => by rw [e] at p6; cases p6
  have hpl : AV.plain (.lst (cellsA sl) (m + 1) tt false) = true := by
   show AV.plains (cellsA sl) = true
   exact cellsA_plains sl
  have h30 : Nat.ble (0 + (m + 1)) 1073741824 = true := Nat.ble_eq_true_of_le (by omega)
  have htk : takeN ((m + 1) * 2) (cellsA sl) = some (cellsA sl) := by rw [← p6]; exact cellsA_take sl
  have h0m : 0 + (m + 1) = m + 1 := by omega
  rcases s6 with ⟨h7, rfl⟩ | ⟨bo, base, o, rs, sb, m1, rfl, m3, m4, m5⟩
  ·have tree := vec01w L U tt m (cellsA sl)
   have hpre : preW (cellsA sl) (m + 1) 0 (stoV L U [] 0 true true) = true := by
    unfold preW
    rw [p1, p2, ofCells_cells, p3]; rfl
   rw [hpl, hpre, h30, htk] at tree
   have tree : ifK ((cellsA sl).all AV.single) (ifK (chk1 L U) (byB (full L U (0 + (m + 1))) (some (errV 16, some (sto0 L U, 66, true), some (sto0 L U, 66, true), none, some (cellsA sl, 29, true)))
    (ifK (chk2 U) (some (objV 0, some (sto1 L (pay U (0 + (m + 1))) 8 1, 66, true), some (sto1 L (pay U (0 + (m + 1))) 8 1, 66, true), some (.int .i64 2 :: .sl 4 0 (0 + (m + 1)) 2 false :: rest8, 115, true), some (cellsA sl, 29, true)))))) = runVec3 Tryz.prog 0 8 4 [(66, sto0 L U)] (.lst (cellsA sl) (m + 1) tt false) := tree.symm
   rw [cellsA_single, chk1_t, chk2_t, h0m] at tree
   cases hfu : full L U (m + 1) with
   | true =>
    rw [hfu] at tree
    obtain ⟨s', r1, r2, _⟩ := run tree.symm
    exact ⟨rfl, s', r1, ends_same0 r2⟩
   | false =>
    rw [hfu] at tree
    obtain ⟨s', r1, r2, _, r3, r4⟩ := run tree.symm
    rw [hn0]
    exact ⟨rfl, s', r1, .inr ⟨L, U, pay U (m + 1), 8, 4, 2, sl, [], _, s2, rfl, fit_more s4 (by omega) hfu, by rw [hn0]; exact r2, r3, .inl ⟨rfl, rfl⟩, .inl ⟨hne, by rw [p6], r4⟩⟩⟩
  ·rw [h7'] at m1; cases m1
 ·cases hF) ends
end Go.Am.Sto
end
section
namespace Go.Am.Sto
open Go Go.Am Go.Proofs
section
variable (isn : Int → Int → Bool) (ng : Int → Bool) (ls : Int → List AV) (ln : Int → Nat) (le : Int → Bool) (g : Bool → List AV → Nat → Bool → Bool) (v : Bool → List AV → Int)
variable (rc : List AV → Int → Bool) (rl : List AV → Int → List AV) (rk : Int → Nat)
variable (vc : Hid → List AV → Nat → Bool → Bool) (vt vn ve : Hid → List AV → Nat → Bool → Int) (vD : Hid → List AV → Nat → Bool → Hid)
def F38q (d : Hid) : List AV → Option (Bool × AV × Hid)
 | [.hptr 0, .int .i64 2, .lst cs m _ nl] => some (vc d cs m nl, .tup [.agg [.int .i64 (vt d cs m nl), .int .i64 (vn d cs m nl)], .int .i64 (ve d cs m nl)], vD d cs m nl)
 | _ => none
def XV24 : Known := (((XB isn ng ls ln le).add 36 (readX (F36v g v))).add 91 (zX (F91v rc rl rk))).add 38 (methX (F38q vc vt vn ve vD))
def YV24 {β : Type} : KnownK β := (((YB isn ng ls ln le).add 36 (smK g v)).add 91 (zK (F91v rc rl rk))).add 38 (methK (F38q vc vt vn ve vD))
def ap24 (P : Program) (tt : Bool) (d : Hid) (a b c e : Int) : Option R := bodyY P G2 (XV24 isn ng ls ln le g v rc rl rk vc vt vn ve vD) (YV24 isn ng ls ln le g v rc rl rk vc vt vn ve vD) 90 20 noLive Res.meth? 100 P.funcs[10]? [.hptr 0, .int .i64 24, .lst (v2 a b c e) 2 tt false] (St.one d)
theorem w24 (tt : Bool) (d : Hid) (a b c e : Int) : ap24 isn ng ls ln le g v rc rl rk vc vt vn ve vD Tryz.prog tt d a b c e =
  ifK (okp d (v2 a b c e) 2) (ifK (kz d a b) (byB (isn a b) (ifK (g (ng b) (ls b) (ln b) (le b)) (byB (!leI 0 (v (ng b) (ls b))) (gV d 0 0 12) (byB (leI 4097 (v (ng b) (ls b))) (gV d 0 0 12)
   (ifK (rc [.int .i64 c, .int .i64 e] (v (ng b) (ls b))) (ifK (AV.plain (.lst (rl [.int .i64 c, .int .i64 e] (v (ng b) (ls b))) (rk (v (ng b) (ls b))) false false)) (ifK (vc d (rl [.int .i64 c, .int .i64 e] (v (ng b) (ls b))) (rk (v (ng b) (ls b))) false)
    (byB (!eqI (ve d (rl [.int .i64 c, .int .i64 e] (v (ng b) (ls b))) (rk (v (ng b) (ls b))) false) 0) (gV (vD d (rl [.int .i64 c, .int .i64 e] (v (ng b) (ls b))) (rk (v (ng b) (ls b))) false) 0 0 (ve d (rl [.int .i64 c, .int .i64 e] (v (ng b) (ls b))) (rk (v (ng b) (ls b))) false))
     (gV (vD d (rl [.int .i64 c, .int .i64 e] (v (ng b) (ls b))) (rk (v (ng b) (ls b))) false) (vt d (rl [.int .i64 c, .int .i64 e] (v (ng b) (ls b))) (rk (v (ng b) (ls b))) false) (vn d (rl [.int .i64 c, .int .i64 e] (v (ng b) (ls b))) (rk (v (ng b) (ls b))) false) 0)))))))) (gV d 0 0 10))) := by kernel_rfl
end
abbrev vcS (d : Hid) (cs : List AV) (m : Nat) (nl : Bool) : Bool := !nl && (Nat.beq d.rows.length 0 && (isCells cs m && (Nat.ble m 4200 && okAll 0 (ofCells cs))))
abbrev vtS (d : Hid) (cs : List AV) (_ : Nat) (_ : Bool) : Int := (mkOf d 2 (ofCells cs)).1.1.1
abbrev vnS (d : Hid) (cs : List AV) (_ : Nat) (_ : Bool) : Int := (mkOf d 2 (ofCells cs)).1.1.2
abbrev veS (d : Hid) (cs : List AV) (_ : Nat) (_ : Bool) : Int := (mkOf d 2 (ofCells cs)).1.2
abbrev vDS (d : Hid) (cs : List AV) (_ : Nat) (_ : Bool) : Hid := (mkOf d 2 (ofCells cs)).2
theorem k38q : MethOk Tryz.prog G0 38 (F38q vcS vtS vnS veS vDS) := meth_mono (meth_or k38w k38e) fun d ar x d' hF => by
 unfold F38q at hF
 split at hF
 case h_2 => cases hF
 rename_i cs m t nl
 simp only [Option.some.injEq, Prod.mk.injEq] at hF
 obtain ⟨h1, rfl, rfl⟩ := hF
 rw [Bool.and_eq_true, Bool.and_eq_true, Bool.and_eq_true, Bool.and_eq_true, Bool.not_eq_true'] at h1
 obtain ⟨rfl, h2, h3, h4, h5⟩ := h1
 cases m with
 | zero =>
  have hcs : cs = [] := by
   obtain ⟨e1, e2⟩ := isCells_eq h3
   rw [e1, List.eq_nil_of_length_eq_zero e2]; rfl
  subst hcs
  unfold orF F38w F38e
  simp only [h2]
  rfl
 | succ m =>
  unfold orF F38w
  simp only [h2, h3, h4, h5]
  rfl
abbrev X24S (P : Program) : Known := XV24 isnS ngS lsS lnS leS gTxt valA rc91 (rl91 P) rk91' vcS vtS vnS veS vDS
abbrev Y24S {β : Type} (P : Program) : KnownK β := YV24 isnS ngS lsS lnS leS gTxt valA rc91 (rl91 P) rk91' vcS vtS vnS veS vDS
theorem kX24 : KnownOk Tryz.prog G2 (X24S Tryz.prog) := ((kXB.add (by rw [F36_eq]; exact k36)).add (zG2 k91)).add (kM2 k38q)
theorem kY24 {β : Type} : KnownKOk (X24S Tryz.prog) (Y24S Tryz.prog : KnownK β) := addK (addH' (addH' kYB 36 k36_le) 91 (zK_le _)) 38 _
theorem ans_24 (l : List V2) (hk : okAll 0 l = true) (ha : arOk 24 l.length = true) : Answered Tryz.prog 24 l := by
 refine ans_2 (D := noLive) (m := 100) (loops := 90) (n := 20) kX24 kY24 (by decide) (by decide) rfl (fun a b c e h h2 => ?_) l hk ha
 have hw := w24 isnS ngS lsS lnS leS gTxt valA rc91 (rl91 Tryz.prog) rk91' vcS vtS vnS veS vDS false d0 a b c e
 unfold ap24 at hw
 rw [hw]
 refine good_ifK (okp0_2 h h2) (good_ifK (kz_0 a b) ?_)
 cases hs : isnS a b with
 | false => exact good_gV (by decide) (by decide)
 | true =>
  have hs : (eqI a 4 && small b) = true := hs
  rw [Bool.and_eq_true] at hs
  obtain ⟨hg, hv⟩ := limbs_ok hs.2
  refine good_ifK hg ?_
  rw [show valA (ngS b) (lsS b) = b from hv]
  cases h0 : (!leI 0 b) with
  | true => exact good_gV (by decide) (by decide)
  | false =>
   have hb0 : 0 ≤ b := by
    rcases Int.lt_or_le b 0 with h1 | h1
    ·rw [leI_f h1] at h0; cases h0
    ·exact h1
   show Good (byB (leI 4097 b) _ _)
   cases h1 : leI 4097 b with
   | true => exact good_gV (by decide) (by decide)
   | false =>
    have hb1 : b ≤ 4096 := by
     rcases Int.lt_or_le b 4097 with h2 | h2
     ·omega
     ·rw [leI_t h2] at h1; cases h1
    obtain ⟨k, rfl⟩ : ∃ k : Nat, b = .ofNat k := ⟨b.toNat, by simp only [Int.ofNat_eq_natCast]; omega⟩
    have hk' : k ≤ 4096 := by simp only [Int.ofNat_eq_natCast] at hb1; omega
    obtain ⟨m, e1, hl, hm⟩ := rl_ok c e hk'
    have hsound : okAll 0 m = true := by
     unfold okAll
     rw [List.all_eq_true]
     intro p hp
     rcases hm p hp with rfl | rfl
     ·exact h2
     ·rfl
    show Good (ifK (rc91 [.int .i64 c, .int .i64 e] (.ofNat k)) _)
    rw [e1]
    refine good_ifK (Nat.ble_eq_true_of_le hk') (good_ifK (cellsA_plains m) (good_ifK ?_ ?_))
    ·show (Nat.beq d0.rows.length 0 && (isCells (cellsA m) k && (Nat.ble k 4200 && okAll 0 (ofCells (cellsA m))))) = true
     rw [ofCells_cells, ← hl, isCells_cells, Nat.ble_eq_true_of_le (show m.length ≤ 4200 by omega), hsound]; rfl
    ·unfold veS vtS vnS vDS
     rw [ofCells_cells]
     have := mk_err d0 2 m hsound nums0
     exact good_byB (good_gV this.1 this.2) (good_gV (by decide) (by decide))
end Go.Am.Sto
end
section
namespace Go.Am.Sto
open Go Go.Am Go.Proofs
abbrev timV (c y q : Int) : Int := U64 (c + U64 (U64 y * U64 q))
def timC (q : Int) : List Int → Int → List AV
 | [], c => [.int .u32 (W32 c)]
 | y :: r, c => .int .u32 (W32 ((timV c y q).tmod 1000000000)) :: timC q r (U64 ((timV c y q).tdiv 1000000000))
def cutR (cs : List AV) (K : Nat) : Option AV := byB (Nat.beq (trimA cs K) 0) (some (.lst [] 0 false false)) (optK (fun v => ifK (Nat.blt 0 (trimA cs K) && AV.flats v) (some (.lst v (trimA cs K) false false))) (cutN (trimA cs K * 1) 0 cs))
def b140 (P : Program) (b : List Int) (m : Nat) (t nl : Bool) (q : Int) : Option AV := bodyY P G0 (Known.none.add 137 cutX) (KnownK.none.add 137 cutK) 0 5 noLive Res.fresh0? 20 P.funcs[140]? [.lst (u32s b) m t nl, .int .u32 q] St.empty
section
variable (t nl : Bool) (q y0 y1 : Int)
theorem s140_1 : b140 Tryz.prog [y0] 1 t nl q = cutR (timC q [y0] 0) 2 := by kernel_rfl
theorem s140_2 : b140 Tryz.prog [y0, y1] 2 t nl q = cutR (timC q [y0, y1] 0) 3 := by kernel_rfl
end
end Go.Am.Sto
end
section
namespace Go.Am.Sto
open Go Go.Am Go.Proofs
theorem tim_cell {c y q : Int} (hc : 0 ≤ c ∧ c < 1000000000) (hy : 0 ≤ y ∧ y < 1000000000) (hq : 0 ≤ q ∧ q < 1000000000) :
  isLimb (.int .u32 (W32 ((timV c y q).tmod 1000000000))) = true ∧ 0 ≤ U64 ((timV c y q).tdiv 1000000000) ∧ U64 ((timV c y q).tdiv 1000000000) < 1000000000 := by
 have h1 : y * q ≤ 999999999 * 999999999 := Int.mul_le_mul (by omega) (by omega) hq.1 (by omega)
 have h0 : 0 ≤ y * q := Int.mul_nonneg hy.1 hq.1
 generalize hp : y * q = p at *
 have e : timV c y q = c + p := by
  unfold timV U64
  rw [show IntKind.u64.wrap y = y from w64 (by omega) (by omega), show IntKind.u64.wrap q = q from w64 (by omega) (by omega), hp, show IntKind.u64.wrap p = p from w64 (by omega) (by omega)]
  exact w64 (by omega) (by omega)
 rw [e]
 have e1 : (c + p).tdiv 1000000000 = (c + p) / 1000000000 := Int.tdiv_eq_ediv_of_nonneg (by omega)
 have e2 : (c + p).tmod 1000000000 = (c + p) % 1000000000 := Int.tmod_eq_emod_of_nonneg (by omega)
 rw [e1, e2, show U64 ((c + p) / 1000000000) = (c + p) / 1000000000 from w64 (by omega) (by omega), show W32 ((c + p) % 1000000000) = (c + p) % 1000000000 from w32 (by omega) (by omega)]
 exact ⟨isLimb_of (by omega) (by omega), by omega, by omega⟩
theorem timC_ok {q : Int} (hq : 0 ≤ q ∧ q < 1000000000) : ∀ (b : List Int) (c : Int), lims b → (0 ≤ c ∧ c < 1000000000) → (timC q b c).all isLimb = true ∧ (timC q b c).length = b.length + 1
 | [], c, _, hc => ⟨by
   show (isLimb (.int .u32 (W32 c)) && true) = true
   rw [show W32 c = c from w32 (by omega) (by omega), isLimb_of hc.1 hc.2]; rfl, rfl⟩
 | y :: r, c, hb, hc => by
  obtain ⟨q1, q2, q3⟩ := tim_cell hc (hb y (by simp)) hq
  obtain ⟨k1, k2⟩ := timC_ok hq r (U64 ((timV c y q).tdiv 1000000000)) (fun z hz => hb z (List.mem_cons_of_mem _ hz)) ⟨q2, q3⟩
  exact ⟨by show (isLimb _ && (timC q r _).all isLimb) = true; rw [q1, k1]; rfl, by show (timC q r _).length + 1 = _; rw [k2]; rfl⟩
theorem cutR_ok {cs : List AV} {K : Nat} (h : cs.all isLimb = true) (hl : cs.length = K) : cutR cs K = some (.lst (cs.take (trimA cs K)) (trimA cs K) false false) := by
 have hk := trimA_le cs K
 unfold cutR
 generalize trimA cs K = k at *
 cases k with
 | zero => rfl
 | succ k =>
  refine (byB_f rfl _ _).trans ?_
  rw [Nat.mul_one, cutN_take (by omega)]
  exact ifK_t (by rw [isLimb_flats (take_limbs h _)]; simp) _
def timL (b : List AV) (m : Nat) (q : Int) : Nat := trimA (timC q (ints b) 0) (m + 1)
def timR (b : List AV) (m : Nat) (q : Int) : List AV := (timC q (ints b) 0).take (timL b m q)
def timG (b : List AV) (m : Nat) (q : Int) : Bool := lim3 m b && (Nat.ble 1 m && (Nat.ble m 2 && isLimb (.int .u32 q)))
section
variable (ct : List AV → Nat → Int → Bool) (rt : List AV → Nat → Int → List AV) (lt : List AV → Nat → Int → Nat)
def F140v : List AV → Option (Bool × AV)
 | [.lst b m _ _, .int .u32 q] => some (ct b m q, .lst (rt b m q) (lt b m q) false false)
 | _ => none
end
theorem isLimb_q {q : Int} (h : isLimb (.int .u32 q) = true) : 0 ≤ q ∧ q < 1000000000 := by
 obtain ⟨z, e, h0, h1⟩ := isLimb_eq h
 cases e; exact ⟨h0, h1⟩
theorem tim_ok {b : List AV} {m : Nat} {q : Int} (h : timG b m q = true) : lim3 (timL b m q) (timR b m q) = true ∧ ∃ l, b = u32s l ∧ ints b = l ∧ l.length = m ∧ 1 ≤ m ∧ m ≤ 2 ∧ (timC q l 0).all isLimb = true ∧ (timC q l 0).length = m + 1 := by
 unfold timG at h
 simp only [Bool.and_eq_true] at h
 obtain ⟨h1, h2, h3, h4⟩ := h
 obtain ⟨l, e1, e2, e3, e4, e5⟩ := lim3_is h1
 obtain ⟨k1, k2⟩ := timC_ok (isLimb_q h4) l 0 e5 ⟨by omega, by omega⟩
 have h2 := Nat.le_of_ble_eq_true h2
 have h3 := Nat.le_of_ble_eq_true h3
 rw [e2] at k2
 refine ⟨?_, l, e1, e4, e2, h2, h3, k1, k2⟩
 have hk := trimA_le (timC q l 0) (m + 1)
 unfold timR timL lim3
 rw [e4, Nat.ble_eq_true_of_le (show trimA (timC q l 0) (m + 1) ≤ 3 by omega)]
 rw [limbsOk_of (by omega) (by rw [List.length_take]; omega) (take_limbs k1 _)]; rfl
theorem k140 : ZOk Tryz.prog G0 140 (F140v timG timR timL) := z_known (D := noLive) (m := 20) (loops := 0) (n := 5) hm hn G0_plain ((KnownOk.none _ _).add k137) (addH' (KnownKOk.none _) 137 cutK_le) fun ar x hF => by
 unfold F140v at hF
 split at hF
 case h_2 => cases hF
 rename_i b m t nl q
 simp only [Option.some.injEq, Prod.mk.injEq] at hF
 obtain ⟨h1, rfl⟩ := hF
 obtain ⟨_, l, e1, e2, e3, hm1, hm2, k1, k2⟩ := tim_ok h1
 subst e1
 unfold timR timL
 rw [e2, ← cutR_ok k1 k2]
 show b140 Tryz.prog l m t nl q = _
 match l, e3, hm1, hm2 with
 | [], e3, hm1, _ => simp only [List.length_nil] at e3; omega
 | [y0], e3, _, _ => cases e3; exact s140_1 t nl q y0
 | [y0, y1], e3, _, _ => cases e3; exact s140_2 t nl q y0 y1
 | _ :: _ :: _ :: _, e3, _, hm2 => simp only [List.length_cons] at e3; omega
end Go.Am.Sto
end
