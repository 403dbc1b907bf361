import Derived.Test.YtlibahklbbachaaGreatDoorTx11
set_option autoImplicit false
set_option maxRecDepth 100000
set_option linter.unusedSimpArgs false
set_option linter.unusedVariables false
namespace Go.Am.Sto
open Go Go.Am Go.Proofs
def D41 : Live := fun i => match i with | 0 => .pack [0, 1, 7, 8] | _ => .all
def L41 (P : Program) (rounds : Nat) : T → St → Option R := runLoop P G0 X1 Y1 5 8 D41 Res.meth? 5000 41 (.pack [0, 1, 7, 8]) 1 rounds
abbrev ask24 : AV := .fn (.func 24) [] [.ptrL [.hptr 0] 0]
def tI (l : AV) (m : Nat) (i : Int) : T := tOf 19 [(0, l), (1, ask24), (7, .int .i64 (.ofNat m)), (8, .int .i64 i)]
theorem start41 (d : Hid) (cs : List AV) (m : Nat) (tt nl : Bool) : bodyY Tryz.prog G0 X1 Y1 5 8 D41 Res.meth? 5000 Tryz.prog.funcs[41]? [.lst cs m tt nl, ask24] (St.one d) = L41 Tryz.prog 5000 (tI (.lst cs m tt nl) m 0) (St.one d) := by kernel_rfl
theorem step41 (N : Nat) (d : Hid) (cs : List AV) (m i : Nat) (tt nl : Bool) : L41 Tryz.prog (N + 1) (tI (.lst cs m tt nl) m (.ofNat i)) (St.one d) =
    byB (!leI (.ofNat m) (.ofNat i)) (ifK (Nat.blt i m && nonNil cs) (opt2 (fun a b => byB (sndM d.names.length d.rows.length a b) (ifK (AV.under 1 (.lst cs m tt nl)) (L41 Tryz.prog N (tI (.lst cs m tt nl) m (IntKind.i64.wrap (.ofNat i + 1))) (St.one d))) (some (.int .i64 (.ofNat i), d))) (cutN 2 (i * 2) cs)))
      (some (.int .i64 (-1), d)) := by kernel_rfl
/-! ## What stands in an object's slots -/
def D93 : Live := fun i => match i with | 0 => .pack [0, 3, 5, 12, 13] | _ => .all
def L93 (P : Program) (rounds : Nat) : T → St → Option R := runLoop P G0 X1 Y1 5 8 D93 Res.meth? 5000 93 (.pack [0, 3, 5, 12, 13]) 2 rounds
def tS (u out : AV) (len i : Int) : T := tOf 31 [(0, .ptrL [.hptr 0, u] 0), (3, .ptr 1 0), (5, out), (12, .int .i64 len), (13, .int .i64 i)]
theorem start93 (d : Hid) (u : AV) (t n : Int) : bodyY Tryz.prog G0 X1 Y1 5 8 D93 Res.meth? 5000 Tryz.prog.funcs[93]? [.ptrL [.hptr 0, u] 0, val t n] (St.one d) = L93 Tryz.prog 5000 (tS u mt (lenOf d.rows t n) 0) (stE0 d t n) := by kernel_rfl
theorem step93a (N : Nat) (d : Hid) (u : AV) (t n len i : Int) : L93 Tryz.prog (N + 1) (tS u mt len i) (stE0 d t n) =
    byB (!leI len i) (byB (!eqI (getO d t n i).2 0) none (ifK (AV.under 2 (.ptrL [.hptr 0, u] 0)) (L93 Tryz.prog N (tS u (.sl 2 0 1 2 false) len (IntKind.i64.wrap (i + 1))) (stE1 d t n (vI (getO d t n i).1)))))
      (some (.lst [] 0 false true, d)) := by kernel_rfl
theorem step93b (N : Nat) (d : Hid) (u : AV) (t n len i : Int) (k : Nat) (C : List AV) : L93 Tryz.prog (N + 1) (tS u (.sl 2 0 (k + 1) 2 false) len i) (stE1 d t n C) =
    byB (!leI len i) (byB (!eqI (getO d t n i).2 0) none (ifK (Nat.ble (k + 1 + 1) 1073741824) (optK (fun old => ifK (AV.under 2 (.ptrL [.hptr 0, u] 0)) (ifK ((bif Nat.ble (1 + C.length) (1 + 0 + (k + 1) * 2) then 0 else 0 + 1).beq (bif Nat.ble (1 + C.length) (1 + 0 + (k + 1) * 2) then 0 else 0 + 1))
        (optK (fun cs => ifK (nonNil cs && AV.plains cs) (L93 Tryz.prog N (tS u (.sl 2 0 (k + 1 + 1) 2 false) len (IntKind.i64.wrap (i + 1))) (stE1 d t n cs))) (cutN ((k + 1 + 1) * 2) 0 (old ++ vI (getO d t n i).1)))))
      (cutN ((k + 1) * 2) 0 C))))
      (optK (fun cs => ifK (Nat.blt 0 (k + 1) && AV.flats cs) (some (.lst cs (k + 1) false false, d))) (cutN ((k + 1) * 2) 0 C)) := by kernel_rfl
def slotsO (d : Hid) (t n : Int) : List V2 := match objAt d.rows t n with | some o => o.2 | none => []
theorem main93b (d : Hid) (u : AV) (t n : Int) (o : Ob) (ho : objAt d.rows t n = some o) (hu : AV.under 2 (.ptrL [.hptr 0, u] 0) = true) : ∀ (N k : Nat) (acc rest : List V2), o.2 = acc ++ rest → acc.length = k + 1 → rest.length < N → o.2.length ≤ 100000 →
    L93 Tryz.prog N (tS u (.sl 2 0 (k + 1) 2 false) (.ofNat o.2.length) (.ofNat (k + 1))) (stE1 d t n (cellsA acc)) = some (.lst (cellsA o.2) o.2.length false false, d)
  | 0, _, _, _, _, _, h, _ => absurd h (by omega)
  | N + 1, k, acc, rest, h1, h2, h3, h4 => by
    have hlen : o.2.length = k + 1 + rest.length := by rw [h1, List.length_append, h2]
    rw [step93b, cellsA_cut acc (k + 1) h2, leN]
    cases rest with
    | nil =>
      rw [List.append_nil] at h1
      rw [List.length_nil] at hlen
      rw [Nat.ble_eq_true_of_le (by omega)]
      show ifK (Nat.blt 0 (k + 1) && AV.flats (cellsA acc)) _ = _
      rw [cellsA_flats, h1, h2]
      rfl
    | cons v rest =>
      rw [List.length_cons] at hlen h3
      have hb : Nat.ble (k + 1 + 1) 1073741824 = true := Nat.ble_eq_true_of_le (by omega)
      have hb2 : Nat.ble o.2.length (k + 1) = false := by
        cases hx : Nat.ble o.2.length (k + 1) with
        | false => rfl
        | true => have := Nat.le_of_ble_eq_true hx; omega
      have hg : getO d t n (.ofNat (k + 1)) = (v, 0) := by
        unfold getO getOf
        rw [ho]
        have : o.2[k + 1]? = some v := by rw [h1, List.getElem?_append_right (by omega), h2, Nat.sub_self]; rfl
        simp only [this]
      have hi : IntKind.i64.wrap (Int.ofNat (k + 1) + 1) = Int.ofNat (k + 1 + 1) := by
        rw [wrap64 (by simp only [Int.ofNat_eq_natCast]; omega) (by simp only [Int.ofNat_eq_natCast]; omega)]
        rfl
      rw [hb, hb2, hg, hu, hi]
      show ifK (Nat.beq _ _) _ = _
      rw [beq_self']
      show optK _ (cutN ((k + 1 + 1) * 2) 0 (cellsA acc ++ cellsA [v])) = _
      rw [← cellsA_append, cellsA_cut _ (k + 1 + 1) (by simp [h2])]
      show ifK (nonNil (cellsA _) && AV.plains (cellsA _)) _ = _
      rw [cellsA_nonNil (by simp), cellsA_plains]
      exact main93b d u t n o ho hu N (k + 1) (acc ++ [v]) rest (by rw [h1, List.append_assoc]; rfl) (by simp [h2]) (by omega) h4
def F93 (d : Hid) : List AV → Option (Bool × AV × Hid)
  | [.ptrL [.hptr 0, u] 0, .agg [.int .i64 t, .int .i64 n]] => some (Nat.ble (slotsO d t n).length 4500 && AV.under 2 (.ptrL [.hptr 0, u] 0), lstA (slotsO d t n), d)
  | _ => none
theorem k93 : MethOk Tryz.prog G0 93 F93 := meth_known (D := D93) (m := 5000) (loops := 5) (n := 8) hm hn G0_plain kX1 kY1 fun d ar x d' hF => by
  unfold F93 at hF
  split at hF
  · rename_i u t n
    simp only [Option.some.injEq, Prod.mk.injEq, Bool.and_eq_true] at hF
    obtain ⟨⟨h1, hu⟩, rfl, rfl⟩ := hF
    have hm9 := Nat.le_of_ble_eq_true h1
    rw [start93, step93a]
    unfold slotsO at hm9 ⊢
    unfold lenOf
    cases ho : objAt d.rows t n with
    | none => rfl
    | some o =>
      rw [ho] at hm9
      cases hl : o.2 with
      | nil => simp only [hl]; rfl
      | cons v rest =>
        have hg : getO d t n 0 = (v, 0) := by
          show getOf d.rows t n (.ofNat 0) = _
          unfold getOf
          rw [ho]
          simp only [hl, List.getElem?_cons_zero]
        have hlt : leI (.ofNat (v :: rest).length) 0 = false := leI_f (by simp only [Int.ofNat_eq_natCast, List.length_cons]; omega)
        simp only [hl]
        rw [hlt, hg, hu]
        have hm9 : o.2.length ≤ 4500 := hm9
        rw [hl, List.length_cons] at hm9
        have := main93b d u t n o ho hu 4999 0 [v] rest (by rw [hl]; rfl) rfl (by omega) (by rw [hl, List.length_cons]; omega)
        rw [hl] at this
        exact this
  · cases hF
end Go.Am.Sto
